/- Part 3 of the proof of CardWalkGoes: Lr W2 Ls W3 W4 W5 W6 W7 W8 W9 W10 W12 RdW W16 ErrIs ErrAs ErrAsFault V9 Chain AsT. -/
import Derived.Test.YtcmingndbhldgaaDoorWg2
import Derived.RangeFuncLeaves
import Derived.RangeFuncRecord
import Derived.RangeFuncSeq
import Derived.RangeFuncCalls
import Derived.OrdersIn
import Derived.TacticsIn
import Derived.TacticsInMore
import Derived.LoopNIn
import Derived.LoopIn
import Derived.Test.YtcmingndbhldgaaDoorWg1
import Derived.Test.YtcmingndbhldgaaDoorRows
import Derived.WalkKit
import Derived.LaidEql
import Derived.Stop.Asserts
import Derived.RowKitTokens
import Derived.Lib.Hide
/-
  A function whose body ends in a range over a function, as it is reasoned about.
-/
namespace Go.Proofs.YtcmingndbhldgaaDoor
open Go.RowKit
set_option linter.unusedVariables false
set_option linter.unusedSimpArgs false

section
variable {P : Program} {n : Nat} {df : List Deferred} {base w : World} {a : Act} {r : Option Nat} {m : Nat}
/-- The fence that lets all through; in a round's frame, or not. -/
def rf : Option Nat → Fence
  | none => Fence.wide
  | some l => Fence.wide.inRound l
theorem rf_round : (rf r).round = r := by cases r <;> rfl
theorem rf_fn (f : FuncId) : (rf r).fn f := by cases r <;> trivial
theorem rf_depth : (rf r).depth = none := by cases r <;> rfl
theorem callsIn_of {f : FuncId} {args : Array Value} {R : Ending → World → Prop} (h : Calls P f args w R) : CallsIn (rf r) m P f args w R := by
  cases r with
  | none => exact callsIn_wide.2 h
  | some l => exact CallsIn.inRound l (callsIn_wide.2 h)
theorem rowsIn_of {s : String} {args : Array Value} {R : Value → World → Prop} (h : Rows P s args w R) : RowsIn (rf r) m P s args w R := by
  intro c cs _
  obtain ⟨v, w', h1, h2⟩ := h c cs
  refine ⟨v, w', h1, ?_⟩
  cases r with
  | none => exact stepsIn_wide.2 h2
  | some l => exact stepsIn_wide.2 h2
/-- An operation, in a round's frame. -/
theorem opIn {o : Oper} (hd : ∀ c, o.op ≠ .defer c) {K : Act → World → Prop} {Q : Exit → Act → World → Prop} (h : o.wp P a w K Q) : o.wpIn (rf r) m P a w K Q := by
  refine ⟨fun f _ => rf_fn f, ?_⟩
  rw [rf_round, Oper.semAt_eq _ _ _ hd]
  unfold Oper.wp at h
  generalize (execOp a.eval o).run P w = res at h ⊢
  have hz : (rf r).depth.isSome = true → 1 ≤ m := fun hh => by rw [rf_depth] at hh; cases hh
  cases res with
  | ok x w' =>
    cases x <;> simp only [Oper.upon, Oper.uponIn] at h ⊢ <;> first | exact h | exact ⟨hz, callsIn_of h⟩ | exact ⟨hz, rowsIn_of h⟩ | exact h.elim
  | halt x w' => cases x <;> simp only [Oper.upon, Oper.uponIn] at h ⊢ <;> first | exact h | exact h.elim
def noDefer (l : List Oper) : Bool := l.all fun o => match o.op with | .defer _ => false | _ => true
theorem noDefer_at {l : List Oper} (h : noDefer l = true) {o : Oper} (ho : o ∈ l) : ∀ c, o.op ≠ .defer c := fun c hc => by
  have := List.all_eq_true.1 h o ho
  rw [hc] at this
  cases this
theorem listIn {ops : Array Oper} {Q : Exit → Act → World → Prop} (hQ : ¬ LetsOut Q) : ∀ (l : List Oper), noDefer l = true → ∀ (a : Act) (w : World), wpList P ops Q l a w → wpListIn (rf r) m P ops Q l a w
  | [], _, a, w, h => h
  | o :: rest, hd, a, w, h => by
    have hr : noDefer rest = true := by
      unfold noDefer at hd ⊢
      rw [List.all_cons, Bool.and_eq_true] at hd
      exact hd.2
    have ih := listIn (ops := ops) hQ rest hr
    unfold wpList at h
    unfold wpListIn
    split
    · rename_i hw
      rw [if_pos hw] at h
      exact opIn (noDefer_at hd (by simp)) (Oper.wp_mono (fun a w => ih a w) (h.resolve_right fun x => hQ x.2))
    · rename_i hw
      rw [if_neg hw] at h
      exact ⟨fun f _ => rf_fn f, ih _ _ h⟩
theorem anyIn {ops : Array Oper} {Q : Exit → Act → World → Prop} (hQ : ¬ LetsOut Q) (hd : noDefer ops.toList = true) : ∀ (fuel : Nat) (L : Array Bool) (a : Act) (w : World), wpAny P .any ops Q fuel L a w → wpAnyIn (rf r) m P .any ops Q fuel L a w
  | 0, L, a, w, h => h
  | fuel + 1, L, a, w, h => by
    refine ⟨h.1, fun i hi => ?_⟩
    have h2 := h.2 i hi
    unfold wpOp at h2
    unfold wpOpIn
    cases ho : ops[i]? with
    | none => rw [ho] at h2; exact anyIn hQ hd fuel _ _ _ h2
    | some o =>
      rw [ho] at h2
      simp only at h2 ⊢
      split
      · rename_i hw
        rw [if_pos hw] at h2
        exact opIn (noDefer_at hd (Array.mem_toList_iff.2 (Array.mem_of_getElem? ho))) (Oper.wp_mono (fun a w => anyIn hQ hd fuel _ a w) (h2.resolve_right fun x => hQ x.2))
      · rename_i hw
        rw [if_neg hw] at h2
        exact ⟨fun f _ => rf_fn f, anyIn hQ hd fuel _ _ _ h2⟩
/-- Code that may stand in a round. -/
def flatC : Code → Bool
  | .skip | .label _ | .exit _ | .ret => true
  | .region _ ops _ => noDefer ops.toList
  | .seq x y => flatC x && flatC y
  | .cond _ x y => flatC x && flatC y
  | .block _ c => flatC c
  | _ => false
theorem conc_in (e : AEx) : e.conc ≠ .outgrown := by cases e <;> simp [AEx.conc]
theorem awp_in : ∀ (c : Code), flatC c = true → ∀ (K : AEx → Fr → St → Prop) (Q : Exit → Act → World → Prop) (F : Fr) (σ : St) (a : Act) (w : World) (G : Gh), awp P n c K F σ → Sim base w G σ → FrRep G a n df F →
    (∀ e a' w' G' F' σ', G.le G' → Sim base w' G' σ' → FrRep G' a' n df F' → K e F' σ' → Q e.conc a' w') → c.wpIn (rf r) m P Q a w := by
  intro c
  induction c with
  | skip => exact fun _ K Q F σ a w G h hS hF hQ => wpIn_skip (hQ .normal a w G F σ G.le_refl hS hF h)
  | label l => exact fun _ K Q F σ a w G h hS hF hQ => wpIn_label (hQ .normal a w G F σ G.le_refl hS hF h)
  | region id ops draw =>
    intro hc K Q F σ a w G h hS hF hQ
    have hl : ¬ LetsOut (fun e a w => e ≠ Exit.outgrown ∧ Q e a w) := fun ⟨a, w, hh⟩ => hh.1 rfl
    cases draw with
    | false =>
      refine wpIn_mono (Q := fun e a w => e ≠ Exit.outgrown ∧ Q e a w) (wpIn_region_list (listIn hl _ hc _ _ ?_)) (fun e a w h => h.2)
      exact aops_sound ops.toList F σ a w G h hS hF (fun a' w' G' F' σ' h1 h2 h3 h4 => ⟨by simp, hQ .normal a' w' G' F' σ' h1 h2 h3 h4⟩) (fun v a' w' G' F' σ' h1 h2 h3 h4 => ⟨by simp, hQ (.pan v) a' w' G' F' σ' h1 h2 h3 h4⟩)
    | true =>
      have hh := h base w G a df (fun e a w => e ≠ Exit.outgrown ∧ Q e a w) id hS hF (fun a' w' G' F' σ' h1 h2 h3 h4 => ⟨by simp, hQ .normal a' w' G' F' σ' h1 h2 h3 h4⟩) (fun v a' w' G' F' σ' h1 h2 h3 h4 => ⟨by simp, hQ (.pan v) a' w' G' F' σ' h1 h2 h3 (h4 F')⟩)
      exact wpIn_mono (Q := fun e a w => e ≠ Exit.outgrown ∧ Q e a w) (wpIn_region_any hh.1 (anyIn hl hc _ _ _ _ hh.2)) (fun e a w h => h.2)
  | seq x y ihx ihy =>
    intro hc K Q F σ a w G h hS hF hQ
    simp only [flatC, Bool.and_eq_true] at hc
    refine wpIn_seq (ihx hc.1 _ _ F σ a w G h hS hF ?_)
    intro e a' w' G' F' σ' h1 h2 h3 h4
    cases e with
    | normal =>
      obtain ⟨F3, τ, G3, k0, k1, k2, k3⟩ := h4 base w' G' a' df h2 h3
      exact ihy hc.2 K Q F3 τ a' w' G3 k3 k1 k2 (fun e a2 w2 G2 F2 σ2 g1 => hQ e a2 w2 G2 F2 σ2 (Gh.le_trans h1 (Gh.le_trans k0 g1)))
    | exit id => exact hQ (.exit id) a' w' G' F' σ' h1 h2 h3 h4
    | ret => exact hQ .ret a' w' G' F' σ' h1 h2 h3 h4
    | pan v => exact hQ (.pan v) a' w' G' F' σ' h1 h2 h3 h4
  | cond c x y ihx ihy =>
    intro hc K Q F σ a w G h hS hF hQ
    simp only [flatC, Bool.and_eq_true] at hc
    simp only [awp] at h
    split at h
    · rename_i p hp
      have hcv : a.eval c = .bool p := by
        have := hF.ev c
        rw [hp] at this
        exact this.v_inv
      exact wpIn_cond_split hcv (fun e => ihx hc.1 K Q F σ a w G (h.1 e) hS hF hQ) (fun e => ihy hc.2 K Q F σ a w G (h.2 e) hS hF hQ)
    · exact h.elim
  | block id c ih =>
    intro hc K Q F σ a w G h hS hF hQ
    refine wpIn_block (ih hc _ _ F σ a w G h hS hF ?_)
    intro e a' w' G' F' σ' h1 h2 h3 h4
    cases e with
    | normal => exact hQ .normal a' w' G' F' σ' h1 h2 h3 h4
    | exit j =>
      by_cases hj : j = id
      · simp only [AEx.conc, Exit.inBlock, if_pos hj]
        simp only [ablock, if_pos hj] at h4
        exact hQ .normal a' w' G' F' σ' h1 h2 h3 h4
      · simp only [AEx.conc, Exit.inBlock, if_neg hj]
        simp only [ablock, if_neg hj] at h4
        exact hQ (.exit j) a' w' G' F' σ' h1 h2 h3 h4
    | ret => exact hQ .ret a' w' G' F' σ' h1 h2 h3 h4
    | pan v => exact hQ (.pan v) a' w' G' F' σ' h1 h2 h3 h4
  | exit id => exact fun _ K Q F σ a w G h hS hF hQ => wpIn_exit (hQ (.exit id) a w G F σ G.le_refl hS hF h)
  | ret => exact fun _ K Q F σ a w G h hS hF hQ => wpIn_ret (hQ .ret a w G F σ G.le_refl hS hF h)
  | _ => exact fun hc => by cases hc
end

section
variable {P : Program} {n : Nat}
/-- An iterator's contract: 'yield' is called with one after the other. -/
def IterOk (P : Program) (gf : FuncId) (caps : List D) (es : List (List D)) : Prop :=
  FnOk P gf ∧ ∀ (base : World) (l : Nat) (lb : List Value) (G0 : Gh) (J : Nat → World → Prop) (W : World), RepL G0 lb caps → (∀ k W', J k W' → ∃ G σ, G0.le G ∧ Sim base W' G σ) → J 0 W →
    (∀ (k : Nat) (W1 : World) (hk : k < es.length) (args : List Value) (m : Nat), J k W1 → RepL G0 args es[k] → YieldAt Fence.wide m P l args.toArray W1 fun e W' => e = .returned (.bool true) ∧ J (k + 1) W') →
    ∀ m, CallsIn Fence.wide m P gf (#[.func (.yield l) #[] #[]] ++ lb.toArray) W fun e W' => (∃ v, e = .returned v) ∧ J es.length W'
def bindF (F : Fr) (ps : List Tmp) (ds : List D) : Fr := (ps.zip ds).foldl (fun F x => upd F x.1 x.2) F
/-- What the machine lays for the rounds' deferred calls. -/
abbrev dn : Obj := .deferred (some [])
def RangeOk (P : Program) (n : Nat) (g : Operand) (ps : Array Tmp) (asg body : Code) (R : D → St → Prop) (F : Fr) (σ : St) : Prop :=
  ∃ gf caps es, ev F g = .fn (.func gf) [] caps ∧ IterOk P gf caps es ∧ (∀ e ∈ es, e.length = ps.size) ∧ (∀ p ∈ ps.toList, p < n) ∧ flatC asg = true ∧ flatC body = true ∧
  ∃ I : Nat → St → Prop, I 0 σ ∧
    (∀ k (hk : k < es.length) (σ' : St) (L D : Nat) (ol ol' : Obj), I k σ' → Fresh σ' L → Fresh σ' D → L ≠ D →
      awp P n asg (fun e F1 σ1 => e = .normal ∧ σ1.own L = some (.obj ol) ∧ awp P n body (fun e F2 σ2 => e = .normal ∧ Wk n (fun _ σ3 => σ3.own L = some (.obj ol') ∧ σ3.own D = some (.obj dn) ∧ ∃ σ4 : St, I (k + 1) σ4 ∧ σ4.le σ3 ∧ Fresh σ4 L ∧ Fresh σ4 D) F2 σ2) F1 (σ1.set L (some (.obj ol')))) (bindF F ps.toList es[k]) ((σ'.set D (some (.obj dn))).set L (some (.obj ol)))) ∧
    ∀ σ', I es.length σ' → R (.tup []) σ'
section
variable {base w : World} {G : Gh} {σ : St}
theorem Sim.newObj (h : Sim base w G σ) (x : Obj) : Sim base (w.alloc x) G (σ.set w.heap.size (some (.obj x))) :=
  h.new ((Below.refl w.heap.size w).alloc (Nat.le_refl _) x) _ ⟨fun o => h.fresh_data (Nat.le_refl _) o, World.alloc_heap_new w x⟩
theorem Sim.objAt (h : Sim base w G σ) {b : Nat} {x : Obj} (hb : σ.own b = some (.obj x)) : w.heap[b]? = some x := (h.own b _ hb).2.2
theorem Sim.setObj (h : Sim base w G σ) {b : Nat} {x : Obj} (hb : σ.own b = some (.obj x)) (y : Obj) : Sim base (w.putObj b y) G (σ.set b (some (.obj y))) := by
  obtain ⟨h0, hn, hh⟩ := h.own b _ hb
  refine h.upd _ (h.own_below h0 (setObj_below w b _)) (fun k _ hk => World.putObj_heap_other hk) G.le_refl (fun _ _ _ => rfl) (fun o v hv => by rw [hn o] at hv; cases hv) (fun z hz => ?_)
  injection hz with hz
  subst hz
  exact ⟨h0, hn, World.putObj_heap_same (Array.getElem?_eq_some_iff.1 hh).1⟩
end
theorem frRep_bind {G : Gh} {df : List Deferred} : ∀ (ps : List Tmp) (ds : List D) (vs : List Value) (a : Act) (F : Fr), FrRep G a n df F → (∀ p ∈ ps, p < n) → RepL G vs ds → FrRep G ⟨(ps.zip vs).foldl (fun t x => t.setIfInBounds x.1 x.2) a.tmps, a.defers⟩ n df (bindF F ps ds)
  | [], ds, vs, a, F, hF, hp, hr => by simpa [bindF] using hF
  | p :: ps, [], vs, a, F, hF, hp, hr => by rw [hr.inv0]; simpa [bindF] using hF
  | p :: ps, d :: ds, vs, a, F, hF, hp, hr => by
    obtain ⟨x, xs, rfl, h1, h2⟩ := hr.inv
    have := frRep_bind ps ds xs (a.put (some p) x) (upd F p d) (hF.put (hp p (by simp)) h1) (fun q hq => hp q (by simp [hq])) h2
    simpa [bindF, Act.put] using this
theorem range_sound {base w : World} {G : Gh} {σ : St} {a : Act} {F : Fr} {df : List Deferred} {g : Operand} {ps : Array Tmp} {asg body : Code} {R : D → St → Prop} {m id : Nat} {Q : Exit → Act → World → Prop} (h : RangeOk P n g ps asg body R F σ) (hS : Sim base w G σ) (hF : FrRep G a n df F)
    (hQ : ∀ w' G' σ' D, G.le G' → Sim base w' G' (σ'.set D (some (.obj dn))) → Fresh σ' D → R (.tup []) σ' → Q .normal { a with defers := { target := .collected D, args := #[] } :: a.defers } w') :
    (Code.block id (.rangeFunc g ps asg body)).wpIn Fence.wide m P Q a w := by
  obtain ⟨gf, caps, es, hg, ⟨hfn, hit⟩, hel, hps, hfa, hfb, I, h0, hround, hend⟩ := h
  have hev := hF.ev g
  rw [hg] at hev
  obtain ⟨lb, hgv, hcaps⟩ : ∃ lb : List Value, a.eval g = .func (.func gf) #[] lb.toArray ∧ RepL G lb caps := by
    generalize a.eval g = y at hev
    cases hev with
    | fn _ us vs _ _ hl1 hrep1 hl hrep =>
      have : us = [] := List.eq_nil_of_length_eq_zero hl1
      subst this
      exact ⟨vs, rfl, hl, hrep⟩
  refine wpIn_block (wpIn_rangeFunc ?_)
  intro fn hfnn
  obtain ⟨rec, hrec⟩ : ∃ rec : LoopState → Option Code → Loop, rec = fun st pe => { state := st, pending := pe, fn, tmps := a.tmps, params := ps, assign := asg, body, defers := w.heap.size } := ⟨_, rfl⟩
  obtain ⟨W1, hW1⟩ : ∃ W1, (w.alloc (.deferred (some []))).alloc (.loop (rec .ready none)) = W1 := ⟨_, rfl⟩
  have hsz : (w.alloc dn).heap.size = w.heap.size + 1 := World.size_alloc _ _
  have hS1 : Sim base W1 G ((σ.set w.heap.size (some (.obj dn))).set (w.heap.size + 1) (some (.obj (.loop (rec .ready none))))) := by
    rw [← hW1, ← hsz]
    exact (hS.newObj dn).newObj _
  obtain ⟨D, hD⟩ : ∃ D, w.heap.size = D := ⟨_, rfl⟩
  have hfD : Fresh σ D := hS.fresh (by omega)
  have hfL : Fresh σ (D + 1) := hS.fresh (by omega)
  rw [hD] at hS1
  have hne : D + 1 ≠ D := by omega
  let J (k : Nat) (W : World) : Prop := ∃ G' σ', G.le G' ∧ Sim base W G' ((σ'.set D (some (.obj dn))).set (D + 1) (some (.obj (.loop (rec .ready none))))) ∧ Fresh σ' D ∧ Fresh σ' (D + 1) ∧ I k σ'
  obtain ⟨gfn, hgf, hgn, hgb⟩ := hfn
  refine ⟨D + 1, [{ target := .collected D, args := #[] }], W1, { target := .fn (.func gf) lb.toArray, args := #[.func (.yield (D + 1)) #[] #[]] }, W1, gf,
    #[.func (.yield (D + 1)) #[] #[]] ++ lb.toArray, W1, ?_, ?_, fun _ _ => trivial, ?_, (fun hh => by cases hh), ?_⟩
  · rw [← hW1, hrec, ← hD]; exact run_enterLoop_outer _ _ _ _ _
  · simp only [resolve, hgv]
    simp [go_sem]
  · simp [invoke, run_enterI hgf hgn hgb]
  · refine (hit base (D + 1) lb G J W1 hcaps (fun k W' ⟨G', σ', h1, h2, _⟩ => ⟨G', _, h1, h2⟩) ⟨G, σ, G.le_refl, hS1, hfD, hfL, h0⟩ ?_ (m - 1)).mono ?_
    · rintro k W hk args m' ⟨G', σ', hle, hSk, hf1, hf2, hI⟩ hargs
      have hL : W.heap[D + 1]? = some (.loop (rec .ready none)) := hSk.objAt (own_same _ _ _)
      have hasz : args.length = ps.size := by rw [hargs.len]; exact hel _ (List.getElem_mem hk)
      have hy := run_yield (P := P) (args := args.toArray) hL (by rw [hrec]; simpa using hasz)
      rw [hrec] at hy
      refine ⟨fn, _, asg, body, hy, roundIn_of_wpIn (rf_fn (r := none) fn) ?_⟩
      have hFr : FrRep G' { tmps := (ps.zip args.toArray).foldl (fun tmps x => tmps.setIfInBounds x.1 x.2) a.tmps, defers := [] } n [] (bindF F ps.toList es[k]) := by
        have := frRep_bind (df := []) ps.toList es[k] args ⟨a.tmps, []⟩ F ⟨hF.size, rfl, fun t => (hF.rep t).mono hle⟩ hps (hargs.mono hle)
        rw [← Array.foldl_toList, Array.toList_zip]
        exact this
      have hrd := hround k hk σ' (D + 1) D (.loop (rec .ready none)) (.loop { rec .ready none with state := .busy }) hI hf2 hf1 hne
      refine awp_in (r := some (D + 1)) asg hfa _ _ _ _ _ _ _ hrd hSk hFr ?_
      rintro e a1 W2 G2 F1 σ1 g1 g2 g3 ⟨rfl, g4, g5⟩
      have hL2 := g2.objAt g4
      refine ⟨_, run_beginRound hL2 (by rw [hrec]), ?_⟩
      refine awp_in (r := some (D + 1)) body hfb _ _ _ _ _ _ _ g5 (g2.setObj g4 _) g3 ?_
      rintro e a2 W3 G3 F2 σ2 k1 k2 k3 ⟨rfl, k4⟩
      obtain ⟨F3, σ3, G4, q1, q2, q3, q4, q5, σ4, q6, q7, q8, q9⟩ := k4 base W3 G3 a2 [] k2 k3
      have hL3 := q2.objAt q4
      refine ⟨_, _, run_endRound none hL3, rfl, G4, σ4, Gh.le_trans hle (Gh.le_trans g1 (Gh.le_trans k1 q1)), ?_, q9, q8, q6⟩
      have hw : ((σ4.set D (some (.obj dn))).set (D + 1) (some (.obj (.loop { rec .ready none with state := .busy })))).le σ3 := fun c x hx => by
        rw [own_set] at hx
        split at hx
        · rename_i e; subst e; rw [q4]; exact hx
        · rw [own_set] at hx
          split at hx
          · rename_i e; subst e; rw [q5]; exact hx
          · exact q7 c x hx
      have := (q2.weaken hw).setObj (own_same _ _ _) (.loop (rec .ready none))
      rw [set_set] at this
      rw [hrec] at this ⊢
      exact this
    · rintro e W2 ⟨⟨v, rfl⟩, G', σ', hle, hSk, hf1, hf2, hI⟩
      have hL : W2.heap[D + 1]? = some (.loop (rec .ready none)) := hSk.objAt (own_same _ _ _)
      refine ⟨none, _, by have := run_endLoop (P := P) hL (by rw [hrec]; simp); rw [hrec] at this; exact this, ?_⟩
      have hS2 := hSk.setObj (own_same _ _ _) (.loop { rec .ready none with state := .exhausted })
      rw [set_set] at hS2
      refine hQ _ G' σ' D hle ?_ hf1 (hend σ' hI)
      have := hS2.weaken (τ := σ'.set D (some (.obj dn))) (St.le_set (St.le_refl _) ((fresh_set _ _ _ _).2 ⟨⟨hne, hne.symm⟩, hf2⟩))
      rw [hrec] at this
      exact this
/-! ### A function that ends in such a range -/
def lastC : Code → Code
  | .seq _ y => lastC y
  | c => c
def awpR (P : Program) (n : Nat) (X : Fr → St → Prop) : Code → (AEx → Fr → St → Prop) → Fr → St → Prop
  | .seq x y, K => awp P n x (aseq (Wk n (awpR P n X y K)) K)
  | _, _ => X
theorem awpR_sound {base : World} {df : List Deferred} {m : Nat} : ∀ (c : Code) (K : AEx → Fr → St → Prop) (X : Fr → St → Prop) (Q : Exit → Act → World → Prop) (F : Fr) (σ : St) (a : Act) (w : World) (G : Gh), awpR P n X c K F σ → Sim base w G σ → FrRep G a n df F →
    (∀ e a' w' G' F' σ', G.le G' → Sim base w' G' σ' → FrRep G' a' n df F' → K e F' σ' → e ≠ .normal → Q e.conc a' w') → (∀ a' w' G' F' σ', G.le G' → Sim base w' G' σ' → FrRep G' a' n df F' → X F' σ' → (lastC c).wpIn Fence.wide m P Q a' w') → c.wpIn Fence.wide m P Q a w := by
  intro c
  induction c with
  | seq x y _ ihy =>
    intro K X Q F σ a w G h hS hF hQ hX
    refine wpIn_seq (wpIn_wide.2 (awp_sound x _ _ F σ a w G h hS hF ?_))
    intro e a' w' G' F' σ' h1 h2 h3 h4
    cases e with
    | normal =>
      obtain ⟨F3, τ, G3, k0, k1, k2, k3⟩ := h4 base w' G' a' df h2 h3
      exact ihy K X Q F3 τ a' w' G3 k3 k1 k2 (fun e a2 w2 G2 F2 σ2 g1 => hQ e a2 w2 G2 F2 σ2 (Gh.le_trans h1 (Gh.le_trans k0 g1))) (fun a2 w2 G2 F2 σ2 g1 => hX a2 w2 G2 F2 σ2 (Gh.le_trans h1 (Gh.le_trans k0 g1)))
    | exit id => exact hQ (.exit id) a' w' G' F' σ' h1 h2 h3 h4 (by simp)
    | ret => exact hQ .ret a' w' G' F' σ' h1 h2 h3 h4 (by simp)
    | pan v => exact hQ (.pan v) a' w' G' F' σ' h1 h2 h3 h4 (by simp)
  | _ => exact fun K X Q F σ a w G h hS hF hQ hX => hX a w G F σ G.le_refl hS hF h
theorem awpR_seq {x y : Code} {K : AEx → Fr → St → Prop} {X : Fr → St → Prop} {F : Fr} {σ : St} (h : ∀ K' : Fr → St → Prop, Kont (∀ F' σ', awpR P n X y K F' σ' → K' F' σ') → awp P n x (aseq K' K) F σ) : awpR P n X (.seq x y) K F σ := h (Wk n (awpR P n X y K)) ⟨fun _ _ h => Wk.same h⟩
theorem awpR_last {id : Nat} {c : Code} {K : AEx → Fr → St → Prop} {X : Fr → St → Prop} {F : Fr} {σ : St} (h : X F σ) : awpR P n X (.block id c) K F σ := h
theorem tri_range {f : FuncId} {fn : Func} {c : Code} {ds : List D} {σ : St} {R : D → St → Prop} {m id : Nat} {g : Operand} {ps : Array Tmp} {asg body : Code} (hf : P.funcs[f]? = some fn) (hb : fn.body = some c) (hnt : fn.ntmps = m) (hrs : fn.results = #[]) (hn : ds.length ≤ m) (hc : lastC c = .block id (.rangeFunc g ps asg body))
    (h : awpR P m (RangeOk P m g ps asg body R) c (fun e F σ' => match e with | .ret => R (.tup []) σ' | _ => False) (frameOf ds) σ) : Tri P f ds σ R := by
  subst hnt
  intro base w G vs hS hA
  have hres : ∀ (tmps : Array Value) (w : World), (results fn tmps).run P w = .ok (.tuple #[]) w := fun tmps w => by
    rw [results_eq, hrs]
    simp [Sem.run_bind, Sem.run_map]
  refine CallsIn.calls (F := Fence.wide) (n := 0) (callsIn_of_wp_marks hf hb trivial ?_) (fun k d hd => by cases hd)
  have hF : FrRep G { tmps := vs.toArray ++ Array.replicate (fn.ntmps - vs.toArray.size) undef, defers := [] } fn.ntmps [] (frameOf ds) := by
    have hlen := hA.len
    refine ⟨by simp; omega, rfl, fun t => ?_⟩
    unfold frameOf
    by_cases ht : t < ds.length
    · have ht' : t < vs.length := by rw [hlen]; exact ht
      have e1 : (vs.toArray ++ Array.replicate (fn.ntmps - vs.toArray.size) undef).getD t undef = vs[t] := by
        rw [Array.getD_eq_getD_getElem?, Array.getElem?_append_left (by simpa using ht')]
        simp [ht']
      rw [e1, List.getD_eq_getElem?_getD, List.getElem?_eq_getElem ht]
      exact hA.rep t _ _ (List.getElem?_eq_getElem ht') (List.getElem?_eq_getElem ht)
    · rw [List.getD_eq_getElem?_getD, List.getElem?_eq_none (by omega)]
      exact .any _
  refine awpR_sound c _ _ _ (frameOf ds) σ _ w G h hS hF ?_ ?_
  · intro e a' w' G' F' σ' h1 h2 h3 h4 h5
    cases e with
    | ret =>
      show LeavesInM _ _ _ _ _ _ a'.defers .returning w'
      rw [h3.defers]
      exact ⟨_, hres _ _, σ', G', h1, h2, .inl ⟨_, _, rfl, .tup [] [] rfl (by simp), h4⟩⟩
    | normal => exact absurd rfl h5
    | exit id => exact h4.elim
    | pan v => exact h4.elim
  · intro a' w' G' F' σ' h1 h2 h3 h4
    rw [hc]
    refine range_sound h4 h2 h3 ?_
    intro w2 G2 σ2 D g1 g2 g3 g4
    show LeavesInM _ _ _ _ _ _ (_ :: a'.defers) .returning w2
    rw [h3.defers]
    have hd := g2.objAt (own_same _ _ _)
    refine ⟨by simp, .inl ⟨D, _, rfl, run_takeDeferred hd, ?_⟩⟩
    have hS3 := g2.setObj (own_same _ _ _) (.deferred none)
    rw [set_set] at hS3
    exact ⟨_, hres _ _, σ2, G2, Gh.le_trans h1 g1, hS3.weaken (St.le_set (St.le_refl _) g3), .inl ⟨_, _, rfl, .tup [] [] rfl (by simp), g4⟩⟩
end
end Go.Proofs.YtcmingndbhldgaaDoor
/-
  Walks (chapter 20): a list from its end on (slices.Backward), as an iterator.
-/
namespace Go.Proofs.YtcmingndbhldgaaDoor
open Go.RowKit
set_option maxRecDepth 100000
set_option linter.unusedVariables false
set_option linter.unusedSimpArgs false
attribute [local irreducible] awp aops aop aput aseq ablock TriX Tri Ret Fresh dq adraw dtail dals dfin Wk

/-- What a list's value is, in whatever world holds its cells. -/
theorem lst_inv {G : Gh} {x : Value} {full : Bool} {sz : Nat} {ds : List (List D)} (h : Rep G x (.lst full sz ds)) :
    (ds = [] ∧ x = .slice none 0 0) ∨ ∃ (b off c : Nat) (sp : Option Nat) (vals : Nat → Value), x = .slice (some ⟨b, off, sp⟩) ds.length c ∧ (ds ≠ [] → sp = none) ∧ (∀ cs ∈ ds, cs.length = sz) ∧ (∀ k, k < ds.length * sz → G b (off + k) = some (vals k)) ∧ ∀ (k : Nat) (d : D), ds.flatten[k]? = some d → Rep G (vals k) d := by
  cases h with
  | lst0 => exact .inl ⟨rfl, rfl⟩
  | lst _ _ _ _ h =>
    cases h with
    | slice a c _ _ _ _ vals hs hc hfull hsz hcell hrep htip =>
      obtain ⟨b, off, sp⟩ := a
      exact .inr ⟨b, off, c, sp, vals, rfl, hs, hsz, hcell, hrep⟩
theorem rowVals {G : Gh} {vals : Nat → Value} {ds : List (List D)} {sz i : Nat} {cs : List D} (hsz : ∀ c ∈ ds, c.length = sz) (hrep : ∀ (k : Nat) (d : D), ds.flatten[k]? = some d → Rep G (vals k) d) (hi : ds[i]? = some cs) :
    RepL G ((List.range sz).map fun j => vals (i * sz + j)) cs := by
  have hcl : cs.length = sz := hsz cs (List.mem_of_getElem? hi)
  refine ⟨by simp [hcl], fun k x d hx hd => ?_⟩
  have hk : k < sz := by rw [← hcl]; exact (List.getElem?_eq_some_iff.1 hd).1
  rw [List.getElem?_map, List.getElem?_range hk] at hx
  injection hx with hx
  subst hx
  exact hrep _ d (by rw [flat_get ds i k cs hsz hi hk]; exact hd)
def vInt : Value → Int
  | .int _ n => n
  | _ => 0
/-- The list from its end on, as it comes. -/
def backE (l : List Chd) : List (List D) := (l.zipIdx.map fun x => [.i x.2, .agg x.1.d]).reverse
theorem backE_len (l : List Chd) : (backE l).length = l.length := by simp [backE]
theorem backE_at (l : List Chd) (k : Nat) (h : k < (backE l).length) : (backE l)[k] = [.i (l.length - 1 - k : Nat), .agg (l[l.length - 1 - k]'(by rw [backE_len] at h; omega)).d] := by
  simp [backE]
set_option maxHeartbeats 4000000 in
theorem back_iter (l : List Chd) (hl : l.length ≤ 100000000000000) : IterOk Tryd.prog 58 [.ptr [.lst false 5 (l.map Chd.d)]] (backE l) := by
  refine ⟨fnOk_of (by kernel_rfl), ?_⟩
  intro base lp lb G0 J W hlb hJ h0 hY m
  obtain ⟨pv, lb, rfl, hpv, hlb⟩ := hlb.inv
  cases hlb.inv0
  cases hpv with
  | ptr ad _ pvals hps hpc hpr =>
    obtain ⟨pb, po, psp⟩ := ad
    subst hps
    have hl0 := hpr 0 _ rfl
    have hc0 := hpc 0 (by simp)
    obtain ⟨sv, hsv⟩ : ∃ sv, sv = pvals 0 := ⟨_, rfl⟩
    rw [← hsv] at hl0 hc0
    clear hpc hpr hsv
    have C0 : ∀ k W', J k W' → W'.cell? ⟨pb, po, none⟩ = some sv := fun k W' h => by
      obtain ⟨G, σ, g1, g2⟩ := hJ k W' h
      exact (g2.data pb po sv (g1 _ _ _ hc0)).1
    have LD : ∀ (i : Nat) (h : i < l.length), ∃ (b off c : Nat) (vs : List Value), sv = .slice (some ⟨b, off, none⟩) l.length c ∧ RepL G0 vs l[i].d ∧ (∀ x ∈ vs, x.oneCell' = true) ∧ ∀ k W', J k W' → ∀ j v, vs[j]? = some v → W'.cell? ⟨b, off + i * 5 + j, none⟩ = some v := by
      intro i h
      rcases lst_inv hl0 with ⟨e, _⟩ | ⟨b, off, c, sp, vals, rfl, hs, hsz, hcell, hrep⟩
      · have : l = [] := by simpa using e
        subst this; simp at h
      · have hsp : sp = none := hs (by intro e; have : l = [] := by simpa using e
                                       subst this; simp at h)
        subst hsp
        rw [List.length_map] at hcell ⊢
        have hsz5 : ∀ cs ∈ l.map Chd.d, cs.length = 5 := fun cs hcs => by obtain ⟨c, _, rfl⟩ := List.mem_map.1 hcs; rfl
        have hR := rowVals (i := i) (cs := l[i].d) hsz5 hrep (by simp [List.getElem?_eq_getElem h])
        have hcl : ∀ j v, ((List.range 5).map fun j => vals (i * 5 + j))[j]? = some v → G0 b (off + i * 5 + j) = some v := by
          intro j v hv
          have hj : j < 5 := by have := (List.getElem?_eq_some_iff.1 hv).1; simpa using this
          rw [List.getElem?_map, List.getElem?_range hj] at hv
          injection hv with hv
          rw [Nat.add_assoc, hcell (i * 5 + j) (by omega), ← hv]
        refine ⟨b, off, c, _, rfl, hR, ?_, ?_⟩
        · intro x hx
          obtain ⟨j, hj, rfl⟩ := List.mem_iff_getElem.1 hx
          obtain ⟨G, σ, g1, g2⟩ := hJ 0 W h0
          exact (g2.data _ _ _ (g1 _ _ _ (hcl j _ (List.getElem?_eq_getElem hj)))).2
        · intro k W' hk
          obtain ⟨G, σ, g1, g2⟩ := hJ k W' hk
          exact fun j v hv => (g2.data _ _ _ (g1 _ _ _ (hcl j v hv))).1
    have hsl : ∃ p c, sv = .slice p l.length c := by
      rcases lst_inv hl0 with ⟨e, h⟩ | ⟨b, off, c, sp, vals, h, _⟩
      · have : l = [] := by simpa using e
        subst this
        exact ⟨_, _, h⟩
      · exact ⟨_, c, by rw [h, List.length_map]⟩
    obtain ⟨p, c, rfl⟩ := hsl
    clear hl0 hc0
    have HC := Lib.hid C0
    have HL := Lib.hid LD
    have HY := Lib.hid hY
    have HJ0 := Lib.hid h0
    have hW0 := C0 0 W h0
    clear C0 LD hJ hY h0
    refine callsIn_of_wp Tryd.func58 rfl trivial ?_ rfl
    rw [Tryd.ntmps58]
    simp only [List.size_toArray, List.length_cons, List.length_nil, Nat.reduceAdd, Nat.reduceSub, Array.replicate_succ, Array.replicate_zero, List.push_toArray, List.append_toArray, List.nil_append, List.cons_append]
    gi_wp2
    gi_loopw [3, 7, 8, 9, 10, 11, 12, 13, 14, 15, 16, 17, 18] (fun x3 _ _ _ _ _ _ _ _ _ _ _ _ wr => ∃ k : Nat, k ≤ l.length ∧ x3 = .int .i64 (l.length - 1 - k) ∧ J k wr) (fun x3 _ _ _ _ _ _ _ _ _ _ _ _ _ => (vInt x3 + 1).toNat)
    case atStart => exact ⟨0, by omega, by simp, HJ0.out⟩
    case round =>
      obtain ⟨k, hk, rfl, hJk⟩ := hrel
      by_cases hlt : k < l.length
      · obtain ⟨b, off, c', vs, hsv, hvr, hv1, hld⟩ := HL.out (l.length - 1 - k) (by omega)
        have hld := hld k wr hJk
        have hvr2 := hvr
        obtain ⟨v0, vs, rfl, _, hvr2⟩ := hvr2.inv
        obtain ⟨v1, vs, rfl, _, hvr2⟩ := hvr2.inv
        obtain ⟨v2, vs, rfl, _, hvr2⟩ := hvr2.inv
        obtain ⟨v3, vs, rfl, _, hvr2⟩ := hvr2.inv
        obtain ⟨v4, vs, rfl, _, hvr2⟩ := hvr2.inv
        cases hvr2.inv0
        have hc := HC.out k wr hJk
        injection hsv with hs1 _ hs3
        subst hs1
        subst hs3
        have hg : decide ((0 : Int) ≤ (l.length : Int) - 1 - k) = true := decide_eq_true (by omega)
        obtain ⟨q, hq⟩ : ∃ q : Nat, (q : Int) = (l.length : Int) - 1 - k := ⟨l.length - 1 - k, by omega⟩
        have hq2 : l.length - 1 - k = q := by omega
        rw [hq2] at hld
        have e0 := hld 0 v0 rfl
        have e1 := hld 1 v1 rfl
        have e2 := hld 2 v2 rfl
        have e3 := hld 3 v3 rfl
        have e4 := hld 4 v4 rfl
        rw [Nat.add_zero] at e0
        clear hld
        rw [← hq]
        obtain ⟨fn, tmps, assign, body, hy, hR⟩ := HY.out k wr (by rw [backE_len]; exact hlt) [.int .i64 q, .agg [v0, v1, v2, v3, v4].toArray] (m - 1) hJk (by
          rw [backE_at]
          refine RepL.cons (by rw [hq2]; exact .v _) (RepL.cons ?_ (RepL.nil _))
          exact .agg _ _ hvr.len hv1 hvr.rep)
        have hql : (q : Int) < l.length := by omega
        clear hvr hv1
        have HQ := Lib.hid hq
        have HQ2 := Lib.hid hq2
        clear hq hq2 hg
        gi_wp2
        refine ⟨(fun h => by cases h), hR.mono ?_⟩
        rintro e W3 ⟨rfl, hJ3⟩
        gi_wp2
        go_roundw
        case rel => exact ⟨k + 1, by omega, by rw [HQ.out]; simp; omega, hJ3⟩
        case measure => show (((q : Int) - 1) + 1).toNat < ((q : Int) + 1).toNat; omega
      · have hke : k = l.length := by omega
        subst hke
        gi_wp2
        go_end0
        exact ⟨⟨_, rfl⟩, by rw [backE_len]; exact hJk⟩
end Go.Proofs.YtcmingndbhldgaaDoor
/-
  More on what is one's own: less of a list's elements; a variable that is kept.
-/
namespace Go.Proofs.YtcmingndbhldgaaDoor
open Go.RowKit
set_option linter.unusedVariables false
set_option linter.unusedSimpArgs false

theorem Sim.arrLe {base w : World} {G : Gh} {σ : St} (h : Sim base w G σ) {b : Nat} {T : TypeId} {sz cap : Nat} {ds ds' : List (List D)} (hb : σ.own b = some (.arr T sz cap ds)) (hl : LeL ds.flatten ds'.flatten) (hn : ds.length = ds'.length) (hs : ∀ cs ∈ ds', cs.length = sz) :
    Sim base w G (σ.set b (some (.arr T sz cap ds'))) := by
  obtain ⟨g0, g1, g2, g3, g4, vs, rest, g5, g6, g7, g8⟩ := h.own b _ hb
  refine h.upd _ h.below (fun _ _ _ => rfl) G.le_refl (fun _ _ _ => rfl) (fun o v hv => h.data b o v hv) (fun y hy => ?_)
  injection hy with hy
  subst hy
  refine ⟨g0, g1, g2, by rw [← hn]; exact g3, hs, vs, rest, g5, g6, ⟨g7.len.trans hl.len, fun k x d' hx hd => ?_⟩, g8⟩
  have hlt : k < ds.flatten.length := by rw [hl.len]; exact (List.getElem?_eq_some_iff.1 hd).1
  exact (g7.rep k x _ hx (List.getElem?_eq_getElem hlt)).le (hl.at k _ d' (List.getElem?_eq_getElem hlt) hd)
theorem Ret.arrLe {R : D → St → Prop} {σ : St} {d : D} (b : Nat) {T : TypeId} {sz cap : Nat} {ds : List (List D)} (ds' : List (List D)) (hb : σ.own b = some (.arr T sz cap ds)) (hl : LeL ds.flatten ds'.flatten) (hn : ds.length = ds'.length) (hs : ∀ cs ∈ ds', cs.length = sz)
    (h : Ret R (σ.set b (some (.arr T sz cap ds'))) d) : Ret R σ d := fun base w G v hS hv => h base w G v (hS.arrLe hb hl hn hs) hv
theorem Wk.arrLe {n : Nat} {I : Fr → St → Prop} {F : Fr} {σ : St} (b : Nat) {T : TypeId} {sz cap : Nat} {ds : List (List D)} (ds' : List (List D)) (hb : σ.own b = some (.arr T sz cap ds)) (hl : LeL ds.flatten ds'.flatten) (hn : ds.length = ds'.length) (hs : ∀ cs ∈ ds', cs.length = sz)
    (h : Wk n I F (σ.set b (some (.arr T sz cap ds')))) : Wk n I F σ := fun base w G a df hS hF => h base w G a df (hS.arrLe hb hl hn hs) hF
theorem Wk.freezeAt {n : Nat} {I : Fr → St → Prop} {F : Fr} {σ : St} (i b : Nat) {T : TypeId} {cs : List D} (hi : F i = .at b 0) (hf : Fresh σ b) (h : Wk n I (upd F i (.ptr cs)) σ) : Wk n I F (σ.set b (some (.box T cs))) := by
  refine Wk.freeze b (own_same _ _ _) trivial (upd F i (.ptr cs)) (fun t => ?_) ?_
  · by_cases e : t = i
    · subst e
      rw [upd_same, hi]
      exact Fz.box T cs 0 rfl
    · rw [upd_ne _ _ e]
      exact Fz.refl _ _ _
  · rw [set_set, set_none hf]
    exact h
theorem le_skip {σ τ : St} (S : List Nat) (hS : ∀ c ∈ S, Fresh σ c) (h : ∀ c, ¬ c ∈ S → τ.own c = σ.own c) : σ.le τ := fun c x hx => by
  by_cases e : c ∈ S
  · rw [(hS c e).own] at hx; cases hx
  · rw [h c e]; exact hx
theorem LeG.tip {tip : Option (Nat × Nat)} {full : Bool} {sz : Nat} {ds ds' : List (List D)} (h : LeGS ds ds') : LeG (.slice tip full sz ds) (.slice tip full sz ds') := fun G x hx => by
  cases hx with
  | slice a c _ _ _ _ vals hs hc hfull hsz hcell hrep htip =>
    have hl := h.len
    have hfl := h.flat
    rw [hl]
    refine .slice a c tip full sz ds' vals (fun e => hs (fun e' => e (by rw [e'] at hl; exact List.eq_nil_of_length_eq_zero hl.symm))) (by rw [← hl]; exact hc) (fun e => by rw [← hl]; exact hfull e) (h.size hsz) (fun k hk => hcell k (by rw [hl]; exact hk)) (fun k d hd => ?_) htip
    obtain ⟨d0, h0, h1⟩ := hfl.at k d hd
    exact h1 G _ (hrep k d0 h0)
theorem Wk.slotG {n : Nat} {I : Fr → St → Prop} {F : Fr} {σ : St} (i : Nat) (d : D) (hd : LeG (F i) d) (h : Wk n I (_root_.Go.Proofs.YtcmingndbhldgaaDoor.upd F i d) σ) : Wk n I F σ := fun base w G a df hS hF => h base w G a df hS ⟨hF.size, hF.defers, fun t => by
  by_cases e : t = i
  · subst e; rw [upd_same]; exact hd G _ (hF.rep t)
  · rw [upd_ne _ _ e]; exact hF.rep t⟩
theorem LeGS.refl : ∀ l : List (List D), LeGS l l
  | [] => .nil
  | x :: l => .cons (.refl _) (LeGS.refl l)
theorem LeGS.snoc {x x' : List D} (h : LeGL x x') : ∀ l : List (List D), LeGS (l ++ [x]) (l ++ [x'])
  | [] => .cons h .nil
  | y :: l => .cons (.refl _) (LeGS.snoc h l)
/-- A region that draws its order, looked at anew. -/
theorem awp_drawWk {P : Program} {n : Nat} {K : AEx → Fr → St → Prop} {F : Fr} {σ : St} {id : Nat} {ops : Array Oper} (h : Wk n (awp P n (.region id ops true) K) F σ) : awp P n (.region id ops true) K F σ := by
  unfold awp at h ⊢
  intro base w G a df Q hq hS hF hQ hE
  obtain ⟨F', τ, G', h1, h2, h3, h4⟩ := h base w G a df hS hF
  exact h4 base w G' a df Q hq h2 h3 (fun a' w' G2 F2 σ2 k1 => hQ a' w' G2 F2 σ2 (Gh.le_trans h1 k1)) (fun v a' w' G2 F2 σ2 k1 => hE v a' w' G2 F2 σ2 (Gh.le_trans h1 k1))
theorem Wk.freezeB {n : Nat} {I : Fr → St → Prop} {F : Fr} {σ : St} (i b : Nat) {T : TypeId} {cs : List D} (hi : F i = .at b 0) (hb : σ.own b = some (.box T cs)) (h : Wk n I (upd F i (.ptr cs)) (σ.set b none)) : Wk n I F σ := by
  refine Wk.freeze b hb trivial (upd F i (.ptr cs)) (fun t => ?_) h
  by_cases e : t = i
  · subst e
    rw [upd_same, hi]
    exact Fz.box T cs 0 rfl
  · rw [upd_ne _ _ e]
    exact Fz.refl _ _ _
theorem Sim.boxLe {base w : World} {G : Gh} {σ : St} (h : Sim base w G σ) {b : Nat} {T : TypeId} {cs cs' : List D} (hb : σ.own b = some (.box T cs)) (hl : LeGL cs cs') : Sim base w G (σ.set b (some (.box T cs'))) := by
  obtain ⟨g0, g1, vs, g5, g7, g8⟩ := h.own b _ hb
  refine h.upd _ h.below (fun _ _ _ => rfl) G.le_refl (fun _ _ _ => rfl) (fun o v hv => h.data b o v hv) (fun y hy => ?_)
  injection hy with hy
  subst hy
  refine ⟨g0, g1, vs, g5, ⟨g7.len.trans hl.len, fun k x d' hx hd => ?_⟩, g8⟩
  obtain ⟨d0, h0, h1⟩ := hl.at k d' hd
  exact h1 G _ (g7.rep k x d0 hx h0)
theorem Ret.boxLe {R : D → St → Prop} {σ : St} {d : D} (b : Nat) {T : TypeId} {cs : List D} (cs' : List D) (hb : σ.own b = some (.box T cs)) (hl : LeGL cs cs') (h : Ret R (σ.set b (some (.box T cs'))) d) : Ret R σ d := fun base w G v hS hv => h base w G v (hS.boxLe hb hl) hv
theorem Wk.boxLe {n : Nat} {I : Fr → St → Prop} {F : Fr} {σ : St} (b : Nat) {T : TypeId} {cs : List D} (cs' : List D) (hb : σ.own b = some (.box T cs)) (hl : LeGL cs cs') (h : Wk n I F (σ.set b (some (.box T cs')))) : Wk n I F σ := fun base w G a df hS hF => h base w G a df (hS.boxLe hb hl) hF
theorem LeG.tup {l l' : List D} (h : LeGL l l') : LeG (.tup l) (.tup l') := fun G x hx => by
  cases hx with
  | tup vs _ hlen hrep =>
    refine .tup vs l' (hlen.trans h.len) (fun k x d hk hd => ?_)
    obtain ⟨d0, h2, h3⟩ := h.at k d hd
    exact h3 G _ (hrep k x d0 hk h2)
theorem Ret.leG {R : D → St → Prop} {σ : St} {d : D} (d' : D) (hd : LeG d d') (h : Ret R σ d') : Ret R σ d := fun base w G v hS hv => h base w G v hS (hd G v hv)
theorem LeG.nil (full : Bool) (sz : Nat) : LeG (.v (.slice none 0 0)) (.lst full sz []) := LeG.of (.nil _ _)
theorem LeG.tr {a b c : D} (h : LeG a b) (k : LeG b c) : LeG a c := fun G x hx => k G x (h G x hx)
end Go.Proofs.YtcmingndbhldgaaDoor
/-
  Walks (chapter 20): the children of a room that is told.
-/
namespace Go.Proofs.YtcmingndbhldgaaDoor
open Go.RowKit
set_option maxRecDepth 100000
set_option linter.unusedVariables false
set_option linter.unusedSimpArgs false
attribute [local irreducible] awp aops aop aput aseq ablock TriX Tri Ret Fresh dq adraw dtail dals dfin Wk

theorem backT (l : List Chd) (σ : St) : Tri Tryd.prog 43 [.lst false 5 (l.map Chd.d)] σ fun d τ => d = .fn (.func 58) [] [.ptr [.lst false 5 (l.map Chd.d)]] ∧ τ = σ := by
  refine tri_fn Tryd.func43 rfl Tryd.ntmps43 Tryd.results43 (Nat.le_of_ble_eq_true rfl) ?_
  refine' wlk0
  ((try simp [*]); (try simp (discharger := omega) only [wrap_i64, dec_t, dec_f]))
  refine Ret.freeze b (own_same _ _ _) trivial _ (Fz.fn _ [] _ [.ptr [.lst false 5 (l.map Chd.d)]] rfl fun k d d' h1 h2 => ?_) ?_
  · rcases k with _ | k
    · injection h1 with h1
      injection h2 with h2
      subst h1; subst h2
      exact Fz.box _ _ 0 rfl
    · simp at h1
  · rw [set_set, set_none (by assumption)]
    exact .same ⟨rfl, rfl⟩
/-- A walk within a state. -/
structure WalkS (σ τ : St) (b bs bm : Nat) (dep : Int) (sug : Bool) (row : List Stp) (came : List ByteArray) (cap : Nat) (ds : List (List D)) : Prop extends WalkO τ b bs bm dep sug row came cap ds where
  le : σ.le τ
  fb : Fresh σ b
  fs : Fresh σ bs
  fm : Fresh σ bm
  n1 : ¬ b = bs
  n2 : ¬ b = bm
  n3 : ¬ bs = bm
/-- The walk, wherever its stack lies. -/
def WalkE (σ τ : St) (b bm : Nat) (dep : Int) (sug : Bool) (row : List Stp) (came : List ByteArray) : Prop := ∃ bs cap ds, WalkS σ τ b bs bm dep sug row came cap ds
/-- The children that are laid, but for the first so many. -/
def belowL (sug : Bool) (dep : Int) (l : List Chd) : List Stp := (l.filter fun c => c.sug || !sug).map fun c => ⟨c.room, dep + 1, c.via⟩
theorem belowL_step (sug : Bool) (dep : Int) (l : List Chd) (k : Nat) (h : k < l.length) :
    belowL sug dep (l.drop (l.length - (k + 1))) = if (l[l.length - 1 - k].sug || !sug) = true then ⟨l[l.length - 1 - k].room, dep + 1, l[l.length - 1 - k].via⟩ :: belowL sug dep (l.drop (l.length - k)) else belowL sug dep (l.drop (l.length - k)) := by
  have hd : l.drop (l.length - (k + 1)) = l[l.length - 1 - k] :: l.drop (l.length - k) := by
    rw [show l.length - (k + 1) = l.length - 1 - k by omega, List.drop_eq_getElem_cons (by omega), show l.length - 1 - k + 1 = l.length - k by omega]
  rw [hd]
  unfold belowL
  rw [List.filter_cons]
  split <;> rfl
theorem belowL_le (sug : Bool) (dep : Int) (l : List Chd) : (belowL sug dep l).length ≤ l.length := by
  unfold belowL
  rw [List.length_map]
  exact List.length_filter_le _ _
theorem live_push {ds : List (List D)} {row : List Stp} {x : Stp} (h : ds.take row.length = row.reverse.map Stp.d) : (ds.take row.length ++ [x.d]).take (x :: row).length = (x :: row).reverse.map Stp.d := by
  rw [h, List.take_of_length_le (by simp)]
  simp
theorem WalkE.mono {σ τ τ' : St} {b bm : Nat} {dep : Int} {sug : Bool} {row : List Stp} {came : List ByteArray} (h : WalkE σ τ b bm dep sug row came) (hl : τ.le τ') : WalkE σ τ' b bm dep sug row came := by
  obtain ⟨bs, cap, ds, ⟨h1, h2, h3, h4⟩, k1, k2, k3, k4, k5, k6, k7⟩ := h
  exact ⟨bs, cap, ds, ⟨hl _ _ h1, hl _ _ h2, hl _ _ h3, h4⟩, St.le_trans k1 hl, k2, k3, k4, k5, k6, k7⟩
theorem WalkE.base {σ σ' τ : St} {b bm : Nat} {dep : Int} {sug : Bool} {row : List Stp} {came : List ByteArray} (h : WalkE σ τ b bm dep sug row came) (hl : σ'.le σ) : WalkE σ' τ b bm dep sug row came := by
  obtain ⟨bs, cap, ds, h0, k1, k2, k3, k4, k5, k6, k7⟩ := h
  exact ⟨bs, cap, ds, h0, St.le_trans hl k1, Fresh.of_le hl k2, Fresh.of_le hl k3, Fresh.of_le hl k4, k5, k6, k7⟩
theorem WalkE.with {σ τ : St} {b bm c : Nat} {x : Own} {dep : Int} {sug : Bool} {row : List Stp} {came : List ByteArray} (h : WalkE σ τ b bm dep sug row came) (hf : Fresh τ c) : WalkE (σ.set c (some x)) (τ.set c (some x)) b bm dep sug row came := by
  obtain ⟨bs, cap, ds, ⟨h1, h2, h3, h4⟩, k1, k2, k3, k4, k5, k6, k7⟩ := h
  have e1 := ne_own h1 hf
  have e2 := ne_own h2 hf
  have e3 := ne_own h3 hf
  have hl : τ.le (τ.set c (some x)) := St.le_set (St.le_refl _) hf
  refine ⟨bs, cap, ds, ⟨hl _ _ h1, hl _ _ h2, hl _ _ h3, h4⟩, St.set_le k1, (fresh_set _ _ _ _).2 ⟨⟨e1.1, e1.2⟩, k2⟩, (fresh_set _ _ _ _).2 ⟨⟨e2.1, e2.2⟩, k3⟩, (fresh_set _ _ _ _).2 ⟨⟨e3.1, e3.2⟩, k4⟩, k5, k6, k7⟩
theorem WalkS.push {σ σ' : St} {bw bs' bm : Nat} {dep : Int} {sug : Bool} {rk : List Stp} {came : List ByteArray} {cap' : Nat} {ds' : List (List D)} (h : WalkS σ σ' bw bs' bm dep sug rk came cap' ds') (x : Stp) (b cap : Nat) (hfb : b = bs' ∨ Fresh σ' b) (hb : ¬ bw = b) :
    WalkE σ (((σ'.set bs' none).set b (some (.arr 46 3 cap (ds'.take rk.length ++ [x.d])))).set bw (some (.box 73 [.i dep, .b sug, .arr b 3 cap 0 (rk.length + 1), .v (.map (some bm))]))) bw bm dep sug (x :: rk) came := by
  obtain ⟨⟨h1, h2, h3, h4⟩, k1, k2, k3, k4, k5, k6, k7⟩ := h
  have hb' : ¬ b = bw := fun e => hb e.symm
  have hbm : ¬ bm = b := by
    rcases hfb with rfl | hfb
    · exact fun e => k7 e.symm
    · exact (ne_own h3 hfb).1
  have hfb2 : Fresh σ b := by
    rcases hfb with rfl | hfb
    · exact k3
    · exact Fresh.of_le k1 hfb
  refine ⟨b, cap, _, ⟨own_same _ _ _, ?_, ?_, live_push h4⟩, ?_, k2, hfb2, k4, hb, k6, fun e => hbm e.symm⟩
  · rw [own_ne _ _ hb', own_same]
  · rw [own_ne _ _ (fun e => k6 e.symm), own_ne _ _ hbm, own_ne _ _ (fun e => k7 e.symm)]
    exact h3
  · intro c y hy
    have e1 : ¬ c = bw := fun e => by rw [e, k2.own] at hy; cases hy
    have e2 : ¬ c = b := fun e => by rw [e, hfb2.own] at hy; cases hy
    have e3 : ¬ c = bs' := fun e => by rw [e, k3.own] at hy; cases hy
    rw [own_ne _ _ e1, own_ne _ _ e2, own_ne _ _ e3]
    exact k1 c y hy
set_option maxHeartbeats 8000000 in
theorem belowT (σ τ : St) (bw bm : Nat) (dep : Int) (sug : Bool) (row : List Stp) (came : List ByteArray) (s : Stp) (l : List Chd) (h : WalkE σ τ bw bm dep sug row came) (hs1 : -1000 ≤ s.depth) (hs2 : s.depth ≤ 1000) (hlen : row.length + l.length ≤ 1000000000000)
    (hvia : ∀ c ∈ l, c.via.length * 16 ≤ 140737488355328) :
    Tri Tryd.prog 28 [.at bw 0, .agg s.d, .lst false 5 (l.map Chd.d)] τ fun d τ' => d = .tup [] ∧ WalkE σ τ' bw bm dep sug (belowW dep sug s l ++ row) came := by
  have HB := Lib.hid (backT l)
  refine tri_range Tryd.func28 rfl Tryd.ntmps28 Tryd.results28 (Nat.le_of_ble_eq_true rfl) rfl ?_
  have hsd : s.d = [.s s.room, .i s.depth, .lst false 1 (txtD s.via)] := rfl
  rw [hsd]
  have HE := Lib.hid h
  obtain ⟨bs, cap, ds, h⟩ := h
  have hown1 := h.box
  have HS := Lib.hid h
  clear h
  refine awpR_seq (fun KS hK => ?_)
  refine' wlk0
  (refine awp_draw (fun KS EG hK hP => ?_); refine draw_rule rfl [(0, true), (1, false), (2, false), (3, true), (4, true), (5, false), (6, true)] [] [] (by kernel_rfl) ?_; refine' dqs0)
  by_cases hd : dep ≤ s.depth
  · refine' wlk0
    rename_i b3 hf3 hn3 hn43 hn34 hf4
    refine ⟨rfl, ?_⟩
    have : belowW dep sug s l = [] := if_neg (by omega)
    rw [this]
    exact HE.out.mono leT
  · refine' wlk0
    rename_i b3 hf3 hn3 hn43 hn34 hf4
    have HVIA := Lib.hid hvia
    have hbw : belowW dep sug s l = belowL sug s.depth l := if_pos (by omega)
    rw [hbw]
    clear hvia hbw HS hown1
    refine Wk.freezeAt 4 b rfl ((fresh_set _ _ _ _).2 ⟨⟨hn43, hn34⟩, hf4⟩) (Wk.freezeAt 3 b3 rfl hf3 ?_)
    refine Wk.same (awpR_seq (fun KS hK => ?_))
    refine' wlk1 HB.out
    refine awpR_last ?_
    refine ⟨_, _, backE l, rfl, back_iter l (by omega), ?_, ?_, rfl, rfl, fun k σ' => WalkE σ σ' bw bm dep sug (belowL sug s.depth (l.drop (l.length - k)) ++ row) came, ?_, ?_, ?_⟩
    · intro e he
      obtain ⟨x, _, rfl⟩ := List.mem_map.1 (List.mem_reverse.1 he)
      rfl
    · intro p hp
      have : p = 17 ∨ p = 18 := by simpa using hp
      rcases this with rfl | rfl <;> decide
    · simp only [Nat.sub_zero, List.drop_length]
      exact HE.out
    · intro k hk σ' L DD ol ol' hI hfL hfD hLD
      have hk' : k < l.length := by rw [backE_len] at hk; exact hk
      rw [backE_at]
      have hst := Lib.hid (belowL_step sug s.depth l k hk')
      have hvc := HVIA.out l[l.length - 1 - k] (List.getElem_mem _)
      obtain ⟨c, hc⟩ : ∃ c, c = l[l.length - 1 - k] := ⟨_, rfl⟩
      rw [← hc] at hst hvc ⊢
      replace hc := Lib.hid hc
      have hbl := belowL_le sug s.depth (l.drop (l.length - k))
      rw [List.length_drop] at hbl
      obtain ⟨rk, hrk⟩ : ∃ rk, rk = belowL sug s.depth (l.drop (l.length - k)) ++ row := ⟨_, rfl⟩
      have hrl : rk.length ≤ 1000000000000 := by rw [hrk, List.length_append]; omega
      rw [← hrk] at hI
      replace hrk := Lib.hid hrk
      have HI := Lib.hid hI
      obtain ⟨bs', cap', ds', hW⟩ := hI
      have hown1 := hW.box
      have hown2 := hW.arr
      have HWS := Lib.hid hW
      have hnl : rk.length ≤ ds'.length := by
        have := congrArg List.length hW.live
        rw [List.length_take, List.length_map, List.length_reverse] at this
        omega
      have hmin : min rk.length ds'.length = rk.length := by omega
      have q1 := hW.n1
      have q1' : ¬ bs' = bw := fun e => q1 e.symm
      clear hW
      have CL := Lib.hid (cloneTxt c.via hvc)
      have hpush := Lib.hid (fun b cap => HWS.out.push ⟨c.room, s.depth + 1, c.via⟩ b cap)
      obtain ⟨a1, a1'⟩ := ne_own hown1 hfL
      obtain ⟨a2, a2'⟩ := ne_own hown1 hfD
      obtain ⟨a3, a3'⟩ := ne_own hown2 hfL
      obtain ⟨a4, a4'⟩ := ne_own hown2 hfD
      have hLD' : ¬ DD = L := fun e => hLD e.symm
      have hcd : c.d = [.s c.room, .s c.order, .lst false 1 (txtD c.via), .b c.sug, .i c.ts] := rfl
      rw [hcd]
      obtain ⟨n, hn⟩ : ∃ n, n = rk.length := ⟨_, rfl⟩
      rw [← hn] at hown1 hnl hmin hrl hpush
      replace hn := Lib.hid hn
      show awp _ _ _ _ (upd (upd _ 17 _) 18 _) _
      refine' wlk0
      obtain ⟨b7, hb7⟩ : ∃ b7, b7 = b := ⟨_, rfl⟩
      subst hb7
      refine ⟨rfl, by simp [own_set, *], ?_⟩
      by_cases hsg : c.sug = true
      · refine' wlk0
        (refine awp_draw (fun KS EG hK hP => ?_); refine draw_rule rfl [(0, true), (1, false), (2, true), (3, true), (4, false), (5, true), (6, false), (7, true), (8, false), (9, true), (10, true), (11, false), (12, false), (13, true), (14, true)] [] [15, 16, 17, 18] (by kernel_rfl) ?_; repeat (first | ((first | refine dq_pu rfl ?_ | refine dq_rd rfl ?_ | (refine dq_gTp rfl rfl ?_ ?_; (focus (simp [*]; done))) | (refine dq_gTr rfl rfl ?_ ?_; (focus (simp [*]; done)))); constructor; refine And.intro (fun _ _ hO => ?_) ?_; (focus (simp [*]; (try simp (discharger := omega) only [wrap_i64, dec_t, dec_f]); (first | ((try (first | refine .inl ⟨?_, by omega, by omega⟩ | refine ⟨by omega, by omega, ?_⟩ | refine ⟨by omega, ?_⟩ | refine .inl ?_)); exact hO.out _ _ (.refl _) (St.le_refl _)) | ((first | refine Tri.call (CL.out _) ?_); rintro _ _ ⟨rfl, h9⟩; replace h9 := h9.symm; subst h9; exact hO.out _ _ (.refl _) (St.le_refl _)) | exact .inr ⟨(CL.out _), hO.out _ _ (.refl _) (St.le_refl _)⟩ | exact .inl ⟨(CL.out _), hO.out _ _ (.refl _) (St.le_refl _)⟩ | exact ⟨_, (CL.out _), hO.out _ _ (.refl _) (St.le_refl _)⟩))); (first | refine aput_some (by decide) ?_ | refine aput_none ?_)) | ((first | (refine dq_gF rfl rfl ?_ ?_; (focus (simp [*]; done))) | (refine dq_gU rfl rfl ?_ ?_; (focus (simp [*]; done)))); (first | refine aput_some (by decide) ?_ | refine aput_none ?_)) | refine dq_nil ?_ | refine dtail_none ?_ | refine dtail_some ?_ | refine dals_alloc rfl (by decide) (by simp; rfl) ?_ | refine dals_box rfl (by decide) (by simp [*]; rfl) ?_  | (refine dals_arrO rfl (by decide) (by first | rfl | simp) (by simp) (by intro σ'; simp [*]; exact CL.out _ σ') (by first | assumption | simp) ?_) | refine dals_nil ?_ | refine dfin_nil ?_ | (refine dfin_cons rfl ?_; simp only [fresh_set, ne_eq, and_assoc]; intro b8 c8 hf8 hc8; (try subst hc8); (repeat (obtain ⟨_, hf8⟩ := hf8))) | (refine aops_idx rfl (fun K9 hO => ?_); simp [*]; (try simp (discharger := omega) only [wrap_i64, dec_t, dec_f]); (first | ((try (first | refine .inr ⟨by omega, by omega, ?_⟩ | refine ⟨by omega, by omega, ?_⟩ | refine ⟨by omega, ?_⟩ | refine .inr ?_)); (first | (intro b; intros; (try have hneA := ne_own (b := b) hown1 (by assumption)); (try have hneB := ne_own (b := b) hown2 (by assumption)); (try have hneC := ne_own (b := b) hown3 (by assumption)); refine hO.out _ _ ?_) | refine hO.out _ _ ?_)) | ((first | refine Tri.call (CL.out _) ?_); (first | rintro _ _ ⟨rfl, h9⟩; replace h9 := h9.symm; subst h9 | rintro _ _ ⟨_, rfl, rfl⟩ | rintro _ _ ⟨_, _, rfl, rfl⟩ | rintro _ _ ⟨_, _, _, rfl, rfl⟩ | rintro _ τ9 ⟨rfl, h9⟩ | rintro _ τ9 ⟨x9, rfl, h9⟩ | rintro _ τ9 ⟨x9, y9, rfl, h9⟩); refine hO.out _ _ ?_)); clear hO; (try clear K9); (first | refine aput_some (by decide) ?_ | refine aput_none ?_)) | refine aops_end ?_ | ((repeat ((fail_if_success (refine hK.out _ _ ?_)); clear hK; (try clear hP EG); (try clear KS))); refine hK.out _ _ ?_; clear hK; (try clear hP EG); try clear KS)))
        rename_i cp _ _ _ _ _ _ _ _ _ _
        have hfb : b = bs' ∨ Fresh σ' b := by assumption
        have q2 : ¬ bw = b ∧ ¬ b = bw := by
          rcases hfb with rfl | hfb
          · exact ⟨q1, q1'⟩
          · exact ne_own hown1 hfb
        refine' wlk0
        refine ⟨rfl, ?_⟩
        have hwp := hpush.out b cp hfb q2.1
        obtain ⟨σ4, hσ4⟩ : ∃ σ4, σ4 = ((σ'.set bs' none).set b (some (.arr 46 3 cp (ds'.take n ++ [[.s c.room, .i (s.depth + 1), .lst false 1 (txtD c.via)]])))).set bw (some (.box 73 [.i dep, .b sug, .arr b 3 cp 0 (n + 1), .v (.map (some bm))])) := ⟨_, rfl⟩
        have f1 : Fresh σ4 L := by rw [hσ4]; simp [fresh_set, fresh_set0, *]
        have f2 : Fresh σ4 DD := by rw [hσ4]; simp [fresh_set, fresh_set0, *]
        have f3 : Fresh σ4 b7 := by rw [hσ4]; simp [fresh_set, fresh_set0, *]
        refine .same ⟨?_, ?_, σ4, ?_, ?_, f1, f2⟩
        · simp [own_set, *]
        · simp [own_set, *]
        · rw [hσ4]
          show WalkE σ _ bw bm dep sug (belowL sug s.depth (l.drop (l.length - (k + 1))) ++ row) came
          rw [hst.out, if_pos (by simp [*]), List.cons_append, ← hrk.out]
          exact hwp
        · refine le_skip [L, DD, b7] ?_ ?_
          · simp [*]
          · intro c hc
            simp only [List.mem_cons, List.not_mem_nil, or_false, not_or] at hc
            rw [hσ4]
            simp only [own_set, if_neg hc.1, if_neg hc.2.1, if_neg hc.2.2]
      · cases hsu : sug
        · subst hsu
          refine' wlk0
          (refine awp_draw (fun KS EG hK hP => ?_); refine draw_rule rfl [(0, true), (1, false), (2, true), (3, true), (4, false), (5, true), (6, false), (7, true), (8, false), (9, true), (10, true), (11, false), (12, false), (13, true), (14, true)] [] [15, 16, 17, 18] (by kernel_rfl) ?_; repeat (first | ((first | refine dq_pu rfl ?_ | refine dq_rd rfl ?_ | (refine dq_gTp rfl rfl ?_ ?_; (focus (simp [*]; done))) | (refine dq_gTr rfl rfl ?_ ?_; (focus (simp [*]; done)))); constructor; refine And.intro (fun _ _ hO => ?_) ?_; (focus (simp [*]; (try simp (discharger := omega) only [wrap_i64, dec_t, dec_f]); (first | ((try (first | refine .inl ⟨?_, by omega, by omega⟩ | refine ⟨by omega, by omega, ?_⟩ | refine ⟨by omega, ?_⟩ | refine .inl ?_)); exact hO.out _ _ (.refl _) (St.le_refl _)) | ((first | refine Tri.call (CL.out _) ?_); rintro _ _ ⟨rfl, h9⟩; replace h9 := h9.symm; subst h9; exact hO.out _ _ (.refl _) (St.le_refl _)) | exact .inr ⟨(CL.out _), hO.out _ _ (.refl _) (St.le_refl _)⟩ | exact .inl ⟨(CL.out _), hO.out _ _ (.refl _) (St.le_refl _)⟩ | exact ⟨_, (CL.out _), hO.out _ _ (.refl _) (St.le_refl _)⟩))); (first | refine aput_some (by decide) ?_ | refine aput_none ?_)) | ((first | (refine dq_gF rfl rfl ?_ ?_; (focus (simp [*]; done))) | (refine dq_gU rfl rfl ?_ ?_; (focus (simp [*]; done)))); (first | refine aput_some (by decide) ?_ | refine aput_none ?_)) | refine dq_nil ?_ | refine dtail_none ?_ | refine dtail_some ?_ | refine dals_alloc rfl (by decide) (by simp; rfl) ?_ | refine dals_box rfl (by decide) (by simp [*]; rfl) ?_  | (refine dals_arrO rfl (by decide) (by first | rfl | simp) (by simp) (by intro σ'; simp [*]; exact CL.out _ σ') (by first | assumption | simp) ?_) | refine dals_nil ?_ | refine dfin_nil ?_ | (refine dfin_cons rfl ?_; simp only [fresh_set, ne_eq, and_assoc]; intro b8 c8 hf8 hc8; (try subst hc8); (repeat (obtain ⟨_, hf8⟩ := hf8))) | (refine aops_idx rfl (fun K9 hO => ?_); simp [*]; (try simp (discharger := omega) only [wrap_i64, dec_t, dec_f]); (first | ((try (first | refine .inr ⟨by omega, by omega, ?_⟩ | refine ⟨by omega, by omega, ?_⟩ | refine ⟨by omega, ?_⟩ | refine .inr ?_)); (first | (intro b; intros; (try have hneA := ne_own (b := b) hown1 (by assumption)); (try have hneB := ne_own (b := b) hown2 (by assumption)); (try have hneC := ne_own (b := b) hown3 (by assumption)); refine hO.out _ _ ?_) | refine hO.out _ _ ?_)) | ((first | refine Tri.call (CL.out _) ?_); (first | rintro _ _ ⟨rfl, h9⟩; replace h9 := h9.symm; subst h9 | rintro _ _ ⟨_, rfl, rfl⟩ | rintro _ _ ⟨_, _, rfl, rfl⟩ | rintro _ _ ⟨_, _, _, rfl, rfl⟩ | rintro _ τ9 ⟨rfl, h9⟩ | rintro _ τ9 ⟨x9, rfl, h9⟩ | rintro _ τ9 ⟨x9, y9, rfl, h9⟩); refine hO.out _ _ ?_)); clear hO; (try clear K9); (first | refine aput_some (by decide) ?_ | refine aput_none ?_)) | refine aops_end ?_ | ((repeat ((fail_if_success (refine hK.out _ _ ?_)); clear hK; (try clear hP EG); (try clear KS))); refine hK.out _ _ ?_; clear hK; (try clear hP EG); try clear KS)))
          rename_i cp _ _ _ _ _ _ _ _ _ _
          have hfb : b = bs' ∨ Fresh σ' b := by assumption
          have q2 : ¬ bw = b ∧ ¬ b = bw := by
            rcases hfb with rfl | hfb
            · exact ⟨q1, q1'⟩
            · exact ne_own hown1 hfb
          refine' wlk0
          refine ⟨rfl, ?_⟩
          have hwp := hpush.out b cp hfb q2.1
          obtain ⟨σ4, hσ4⟩ : ∃ σ4, σ4 = ((σ'.set bs' none).set b (some (.arr 46 3 cp (ds'.take n ++ [[.s c.room, .i (s.depth + 1), .lst false 1 (txtD c.via)]])))).set bw (some (.box 73 [.i dep, .b false, .arr b 3 cp 0 (n + 1), .v (.map (some bm))])) := ⟨_, rfl⟩
          have f1 : Fresh σ4 L := by rw [hσ4]; simp [fresh_set, fresh_set0, *]
          have f2 : Fresh σ4 DD := by rw [hσ4]; simp [fresh_set, fresh_set0, *]
          have f3 : Fresh σ4 b7 := by rw [hσ4]; simp [fresh_set, fresh_set0, *]
          refine .same ⟨?_, ?_, σ4, ?_, ?_, f1, f2⟩
          · simp [own_set, *]
          · simp [own_set, *]
          · rw [hσ4]
            show WalkE σ _ bw bm dep false (belowL false s.depth (l.drop (l.length - (k + 1))) ++ row) came
            rw [hst.out, if_pos (by simp [*]), List.cons_append, ← hrk.out]
            exact hwp
          · refine le_skip [L, DD, b7] ?_ ?_
            · simp [*]
            · intro c hc
              simp only [List.mem_cons, List.not_mem_nil, or_false, not_or] at hc
              rw [hσ4]
              simp only [own_set, if_neg hc.1, if_neg hc.2.1, if_neg hc.2.2]
        · subst hsu
          refine' wlk0
          refine ⟨rfl, .same ⟨?_, ?_, σ', ?_, ?_, hfL, hfD⟩⟩
          · simp [own_set, *]
          · simp [own_set, *]
          · show WalkE σ _ bw bm dep true (belowL true s.depth (l.drop (l.length - (k + 1))) ++ row) came
            rw [hst.out, if_neg (by simp [*]), ← hrk.out]
            exact HI.out
          · refine le_skip [L, DD, b7] ?_ ?_
            · simp [*]
            · intro c hc
              simp only [List.mem_cons, List.not_mem_nil, or_false, not_or] at hc
              simp only [own_set, if_neg hc.1, if_neg hc.2.1, if_neg hc.2.2]
    · intro σ' hI
      rw [backE_len, Nat.sub_self, List.drop_zero] at hI
      exact ⟨rfl, hI⟩
end Go.Proofs.YtcmingndbhldgaaDoor
/-
  Walks (chapter 20): New, a step.
-/
namespace Go.Proofs.YtcmingndbhldgaaDoor
open Go.RowKit
set_option maxRecDepth 100000
set_option linter.unusedVariables false
set_option linter.unusedSimpArgs false
attribute [local irreducible] awp aops aop aput aseq ablock TriX Tri Ret Fresh dq adraw dtail dals dfin Wk

/-- A fault, as it is told. -/
def faultD (at' : Int) (field : ByteArray) (code : Int) : D := .iface 67 (.ptr [.i at', .s field, .iface 68 (.i code)])
def sRoomId : ByteArray := ⟨#[114, 111, 111, 109, 95, 105, 100]⟩
def sMaxDepth : ByteArray := ⟨#[109, 97, 120, 95, 100, 101, 112, 116, 104]⟩
/-- What New hands back. -/
def NewR (root : ByteArray) (dep : Int) (sug : Bool) (σ : St) (d : D) (τ : St) : Prop :=
  if isB 1 root = true then if 0 ≤ dep ∧ dep ≤ 10 then ∃ bw bm, d = .tup [.at bw 0, .v .nilIface] ∧ WalkE σ τ bw bm dep sug [⟨root, 0, []⟩] [] else d = .tup [.v (.pointer none), faultD (-1) sMaxDepth 8] ∧ τ = σ else d = .tup [.v (.pointer none), faultD (-1) sRoomId 7] ∧ τ = σ
theorem fault_ret {σ : St} {b : Nat} {R : D → St → Prop} (a : Int) (f : ByteArray) (c : Int) (hf : Fresh σ b) (h : R (.tup [.v (.pointer none), faultD a f c]) σ) :
    Ret R (σ.set b (some (.box 70 [.i a, .s f, .iface 68 (.i c)]))) (.tup [.v (.pointer none), .iface 67 (.at b 0)]) := by
  refine Ret.freeze b (own_same _ _ _) trivial _ (Fz.tupAt (Fz.iface _ _ _ (Fz.box _ _ 0 rfl)) [.v (.pointer none)] []) ?_
  rw [set_set, set_none hf]
  exact .same h
set_option maxHeartbeats 4000000 in
theorem walkNewT (root : ByteArray) (dep : Int) (sug : Bool) (σ : St) (hr : root.size ≤ 1000) : Tri Tryd.prog 6 [.s root, .i dep, .b sug] σ (NewR root dep sug σ) := by
  have HI := Lib.hid (isRoomT root hr)
  cases hb : isB 1 root with
  | false =>
    have hN : NewR root dep sug σ = fun d τ => d = .tup [.v (.pointer none), faultD (-1) sRoomId 7] ∧ τ = σ := by funext d τ; unfold NewR; rw [hb, if_neg (by decide)]
    rw [hN]
    clear hN
    rw [hb] at HI
    clear hb
    refine tri_fn Tryd.func6 rfl Tryd.ntmps6 Tryd.results6 (Nat.le_of_ble_eq_true rfl) ?_
    refine' wlk1 HI.out
    ((try simp [*]); (try simp (discharger := omega) only [wrap_i64, dec_t, dec_f]))
    exact fault_ret (-1) sRoomId 7 (by assumption) ⟨rfl, rfl⟩
  | true =>
    rw [hb] at HI
    by_cases hd : 0 ≤ dep ∧ dep ≤ 10
    · have hN := Lib.hid (show NewR root dep sug σ = fun d τ => ∃ bw bm, d = .tup [.at bw 0, .v .nilIface] ∧ WalkE σ τ bw bm dep sug [⟨root, 0, []⟩] [] by funext d τ; unfold NewR; rw [hb, if_pos rfl, if_pos hd])
      rw [hN.out]
      clear hN
      obtain ⟨hd1, hd2⟩ := hd
      have hd3 : ¬ dep < 0 := by omega
      have hd4 : ¬ 10 < dep := by omega
      clear hb
      refine tri_fn Tryd.func6 rfl Tryd.ntmps6 Tryd.results6 (Nat.le_of_ble_eq_true rfl) ?_
      refine' wlkO1 HI.out
      ((try simp [*]); (try simp (discharger := omega) only [wrap_i64, dec_t, dec_f]))
      rename_i bs hfs bm hms hsm hfm hbb1 hbb2 hbb3 hbb4 hfb
      refine Ret.arrLe bs (T := 46) (sz := 3) (cap := 1) (ds := [[.s root, .i 0, .v (.slice none 0 0)]]) [[.s root, .i 0, .lst false 1 []]] ?_ (.cons (.refl _) (.cons (.refl _) (.cons (.nil _ _) .nil))) rfl (by simp) ?_
      · simp [own_set, *]
      refine .same ⟨b, rfl, bm, bs, 1, [[.s root, .i 0, .lst false 1 []]], ⟨?_, ?_, ?_, rfl⟩, ?_, ?_, ?_, ?_, ?_, ?_, ?_⟩
      · simp [own_set, *]
      · simp [own_set, *]
      · simp [own_set, *, cameE]
      · refine le_skip [bs, bm, b] (by simp [*]) (fun c hc => ?_)
        simp only [List.mem_cons, List.not_mem_nil, or_false, not_or] at hc
        simp [own_set, hc]
      all_goals assumption
    · have hN := Lib.hid (show NewR root dep sug σ = fun d τ => d = .tup [.v (.pointer none), faultD (-1) sMaxDepth 8] ∧ τ = σ by funext d τ; unfold NewR; rw [hb, if_pos rfl, if_neg hd])
      rw [hN.out]
      clear hN hb
      by_cases hd1 : dep < 0
      · refine tri_fn Tryd.func6 rfl Tryd.ntmps6 Tryd.results6 (Nat.le_of_ble_eq_true rfl) ?_
        refine' wlk1 HI.out
        ((try simp [*]); (try simp (discharger := omega) only [wrap_i64, dec_t, dec_f]))
        exact fault_ret (-1) sMaxDepth 8 (by assumption) ⟨rfl, rfl⟩
      · have hd2 : 10 < dep := by omega
        refine tri_fn Tryd.func6 rfl Tryd.ntmps6 Tryd.results6 (Nat.le_of_ble_eq_true rfl) ?_
        refine' wlk1 HI.out
        ((try simp [*]); (try simp (discharger := omega) only [wrap_i64, dec_t, dec_f]))
        exact fault_ret (-1) sMaxDepth 8 (by assumption) ⟨rfl, rfl⟩
theorem live_suffix {ds : List (List D)} {pre r : List Stp} (h : ds.take (pre ++ r).length = (pre ++ r).reverse.map Stp.d) : ds.take r.length = r.reverse.map Stp.d := by
  have : (ds.take (pre ++ r).length).take r.length = r.reverse.map Stp.d := by
    rw [h, List.reverse_append, List.map_append, List.take_left' (by simp)]
  rw [List.take_take, Nat.min_eq_left (by simp)] at this
  exact this
theorem dropW_suffix (came : List ByteArray) : ∀ row : List Stp, ∃ pre, row = pre ++ dropW came row
  | [] => ⟨[], rfl⟩
  | x :: row => by
    rw [dropW]
    split
    · obtain ⟨pre, h⟩ := dropW_suffix came row
      exact ⟨x :: pre, by rw [List.cons_append, ← h]⟩
    · exact ⟨[], rfl⟩
theorem dropW_head (came : List ByteArray) : ∀ (row : List Stp) (x : Stp) (r : List Stp), dropW came row = x :: r → inS came x.room = false
  | [], x, r, h => by cases h
  | y :: row, x, r, h => by
    rw [dropW] at h
    split at h
    · exact dropW_head came row x r h
    · rename_i hc
      injection h with h1 h2
      subst h1
      exact Bool.eq_false_iff.2 hc
theorem nextW_drop (A : ByteArray → Fnd) (dep : Int) (sug : Bool) (came : List ByteArray) : ∀ row : List Stp, nextW A dep sug (dropW came row) came = nextW A dep sug row came
  | [] => rfl
  | x :: row => by
    rw [dropW]
    split
    · rename_i hc
      rw [nextW_drop A dep sug came row, nextW, if_pos hc]
    · rfl
theorem dropW_le (came : List ByteArray) (row : List Stp) : (dropW came row).length ≤ row.length := by
  obtain ⟨pre, h⟩ := dropW_suffix came row
  have := congrArg List.length h
  rw [List.length_append] at this
  omega
theorem dropE (σ τ : St) (bw bm : Nat) (dep : Int) (sug : Bool) (row : List Stp) (came : List ByteArray) (h : WalkE σ τ bw bm dep sug row came) (hlen : row.length ≤ 100000000000000) :
    Tri Tryd.prog 26 [.at bw 0] τ fun d τ' => d = .tup [] ∧ WalkE σ τ' bw bm dep sug (dropW came row) came := by
  obtain ⟨bs, cap, ds, h0, k1, k2, k3, k4, k5, k6, k7⟩ := h
  refine (dropT τ bw bs bm dep sug row came cap ds h0 k5 k6 hlen).mono ?_
  rintro d τ' ⟨rfl, rfl⟩
  refine ⟨rfl, bs, cap, ds, ⟨own_same _ _ _, ?_, ?_, ?_⟩, ?_, k2, k3, k4, k5, k6, k7⟩
  · rw [own_ne _ _ (fun e => k5 e.symm)]; exact h0.arr
  · rw [own_ne _ _ (fun e => k6 e.symm)]; exact h0.map
  · obtain ⟨pre, hp⟩ := dropW_suffix came row
    have := h0.live
    rw [hp] at this
    exact live_suffix this
  · exact St.le_set k1 k2
theorem WalkE.over {σ τ : St} {b bm c : Nat} {x : Option Own} {dep : Int} {sug : Bool} {row : List Stp} {came : List ByteArray} {y : Own} (h : WalkE (σ.set c (some y)) τ b bm dep sug row came) (hf : Fresh σ c) : WalkE σ (τ.set c x) b bm dep sug row came := by
  obtain ⟨bs, cap, ds, ⟨h1, h2, h3, h4⟩, k1, k2, k3, k4, k5, k6, k7⟩ := h
  obtain ⟨⟨e1, _⟩, k2⟩ := (fresh_set _ _ _ _).1 k2
  obtain ⟨⟨e2, _⟩, k3⟩ := (fresh_set _ _ _ _).1 k3
  obtain ⟨⟨e3, _⟩, k4⟩ := (fresh_set _ _ _ _).1 k4
  refine ⟨bs, cap, ds, ⟨?_, ?_, ?_, h4⟩, ?_, k2, k3, k4, k5, k6, k7⟩
  · rw [own_ne _ _ e1]; exact h1
  · rw [own_ne _ _ e2]; exact h2
  · rw [own_ne _ _ e3]; exact h3
  · exact St.le_set (St.le_trans (St.le_set (St.le_refl _) hf) k1) hf
end Go.Proofs.YtcmingndbhldgaaDoor
/-
  Walks (chapter 20): a step.
-/
namespace Go.Proofs.YtcmingndbhldgaaDoor
open Go.RowKit
set_option maxRecDepth 100000
set_option linter.unusedVariables false
set_option linter.unusedSimpArgs false
attribute [local irreducible] awp aops aop aput aseq ablock TriX Tri Ret Fresh dq adraw dtail dals dfin Wk

def fndD (f : Fnd) : D := .agg [.i f.1, .lst false 5 (f.2.map Chd.d)]
/-- The asker's contract. -/
structure AskOk (A : ByteArray → Fnd) (af : Nat) (caps : List D) (B : Nat) : Prop where
  fn : FnOk Tryd.prog af
  run : ∀ (room : ByteArray) (via : List ByteArray) (σ : St), room.size ≤ 1000 → Tri Tryd.prog af ([.s room, .lst false 1 (txtD via)] ++ caps) σ fun d τ => d = fndD (A room) ∧ τ = σ
  few : ∀ r, (A r).2.length ≤ B
  via : ∀ r, ∀ c ∈ (A r).2, c.via.length * 16 ≤ 140737488355328 ∧ c.room.size ≤ 1000
def zStp : Stp := ⟨ByteArray.empty, 0, []⟩
def stepD : Option (Stp × Int) → D
  | none => .tup [.agg zStp.d, .i 1, .b false]
  | some (s, k) => .tup [.agg s.d, .i k, .b true]
/-- Rooms that may stand in the row. -/
def RowOk (dep : Int) (row : List Stp) : Prop := ∀ s ∈ row, 0 ≤ s.depth ∧ s.depth ≤ dep ∧ s.via.length * 16 ≤ 140737488355328 ∧ s.room.size ≤ 1000
theorem RowOk.below {A : ByteArray → Fnd} {af : Nat} {caps : List D} {B : Nat} (hA : AskOk A af caps B) {dep : Int} {sug : Bool} {s : Stp} {row : List Stp} (h : RowOk dep (s :: row)) : RowOk dep (belowW dep sug s (A s.room).2 ++ row) := by
  intro x hx
  rcases List.mem_append.1 hx with hx | hx
  · unfold belowW at hx
    split at hx
    · obtain ⟨c, hc, rfl⟩ := List.mem_map.1 hx
      have h1 := h s List.mem_cons_self
      have h2 := hA.via _ c (List.mem_filter.1 hc).1
      exact ⟨by simp only; omega, by simp only; omega, h2.1, h2.2⟩
    · cases hx
  · exact h x (List.mem_cons_of_mem _ hx)
theorem dropW_self {came : List ByteArray} {row : List Stp} (h : dropW came row = row) : row = [] ∨ ∃ x r, row = x :: r ∧ inS came x.room = false := by
  cases row with
  | nil => exact .inl rfl
  | cons x r => exact .inr ⟨x, r, rfl, dropW_head came _ x r h⟩
theorem dropW_twice (came : List ByteArray) : ∀ row : List Stp, dropW came (dropW came row) = dropW came row
  | [] => rfl
  | x :: row => by
    rw [dropW]
    split
    · exact dropW_twice came row
    · rename_i hc
      rw [dropW, if_neg hc]
theorem RowOk.drop {dep : Int} {row : List Stp} (h : RowOk dep row) (came : List ByteArray) : RowOk dep (dropW came row) := by
  obtain ⟨pre, hp⟩ := dropW_suffix came row
  intro s hs
  exact h s (by rw [hp]; exact List.mem_append_right _ hs)
def stkLen : Option Own → Nat
  | some (.box _ [_, _, .arr _ _ _ _ n, _]) => n
  | _ => 0
theorem WalkE.len {σ τ : St} {b bm : Nat} {dep : Int} {sug : Bool} {row : List Stp} {came : List ByteArray} (h : WalkE σ τ b bm dep sug row came) : stkLen (τ.own b) = row.length := by
  obtain ⟨bs, cap, ds, h0⟩ := h
  rw [h0.box]
  rfl
theorem WalkS.with {σ τ : St} {b bs bm c : Nat} {x : Own} {dep : Int} {sug : Bool} {row : List Stp} {came : List ByteArray} {cap : Nat} {ds : List (List D)} (h : WalkS σ τ b bs bm dep sug row came cap ds) (hf : Fresh τ c) : WalkS (σ.set c (some x)) (τ.set c (some x)) b bs bm dep sug row came cap ds := by
  obtain ⟨⟨h1, h2, h3, h4⟩, k1, k2, k3, k4, k5, k6, k7⟩ := h
  have e1 := ne_own h1 hf
  have e2 := ne_own h2 hf
  have e3 := ne_own h3 hf
  have hl : τ.le (τ.set c (some x)) := St.le_set (St.le_refl _) hf
  exact ⟨⟨hl _ _ h1, hl _ _ h2, hl _ _ h3, h4⟩, St.set_le k1, (fresh_set _ _ _ _).2 ⟨⟨e1.1, e1.2⟩, k2⟩, (fresh_set _ _ _ _).2 ⟨⟨e2.1, e2.2⟩, k3⟩, (fresh_set _ _ _ _).2 ⟨⟨e3.1, e3.2⟩, k4⟩, k5, k6, k7⟩
theorem WalkS.pop {σ τ : St} {bw bs bm : Nat} {dep : Int} {sug : Bool} {x : Stp} {r : List Stp} {came : List ByteArray} {cap : Nat} {ds : List (List D)} (h : WalkS σ τ bw bs bm dep sug (x :: r) came cap ds) (hc : inS came x.room = false) :
    WalkE σ ((τ.set bm (some (.mp (mput (cameE came) x.room (.i 1))))).set bw (some (.box 73 [.i dep, .b sug, .arr bs 3 cap 0 r.length, .v (.map (some bm))]))) bw bm dep sug r (came ++ [x.room]) := by
  obtain ⟨⟨h1, h2, h3, h4⟩, k1, k2, k3, k4, k5, k6, k7⟩ := h
  refine ⟨bs, cap, ds, ⟨own_same _ _ _, ?_, ?_, (live_get h4).2⟩, St.le_set (St.le_set k1 k4) k2, k2, k3, k4, k5, k6, k7⟩
  · rw [own_ne _ _ (fun e => k5 e.symm), own_ne _ _ k7]; exact h2
  · rw [own_ne _ _ (fun e => k6 e.symm), own_same, cameE_put _ _ hc]
set_option maxHeartbeats 8000000 in
theorem walkNextT (A : ByteArray → Fnd) (af : Nat) (caps : List D) (B : Nat) (hA : AskOk A af caps B) (σ τ : St) (bw bm : Nat) (dep : Int) (sug : Bool) (row : List Stp) (came : List ByteArray) (h : WalkE σ τ bw bm dep sug row came) (hrow : RowOk dep row) (hdep : dep ≤ 10) (hlen : row.length + B ≤ 1000000000000) :
    Tri Tryd.prog 11 [.at bw 0, .fn (.func af) [] caps] τ fun d τ' => d = stepD (nextW A dep sug row came).2 ∧ WalkE σ τ' bw bm dep sug (nextW A dep sug row came).1.1 (nextW A dep sug row came).1.2 := by
  have HF := Lib.hid hA.fn
  have HA := Lib.hid hA
  clear hA
  obtain ⟨bs, cap, ds, h0⟩ := h
  have hown1 := h0.box
  have hown2 := h0.arr
  have hown3 := h0.map
  have HW := Lib.hid (show WalkE σ τ bw bm dep sug row came from ⟨bs, cap, ds, h0⟩)
  clear h0
  refine tri_fn Tryd.func11 rfl Tryd.ntmps11 Tryd.results11 (Nat.le_of_ble_eq_true rfl) ?_
  refine' wlk0
  obtain ⟨b4, hb4⟩ : ∃ b4, b4 = b := ⟨_, rfl⟩
  subst hb4
  have hf4 : Fresh τ b4 := by assumption
  have W0 := HW.out.with (x := .box 46 [.s ByteArray.empty, .i 0, .v (.slice none 0 0)]) hf4
  have hf4' : Fresh σ b4 := by
    obtain ⟨_, _, _, h0⟩ := HW.out
    exact Fresh.of_le h0.le hf4
  clear hf4 hown1 hown2 hown3 HW
  obtain ⟨σ4, hσ4⟩ : ∃ σ4, σ4 = σ.set b4 (some (.box 46 [.s ByteArray.empty, .i 0, .v (.slice none 0 0)])) := ⟨_, rfl⟩
  have HO4 := Lib.hid (own_gen hσ4)
  rw [← hσ4] at W0
  replace hσ4 := Lib.hid hσ4
  have HW0 := Lib.hid W0
  clear W0
  repeat (first | ((first | refine aops_cons (fun K9 hO => ?_) | (refine aops_guardT rfl ?_ (fun K9 hO => ?_); (focus (simp [*]; done)))); simp [*]; (try simp (discharger := omega) only [wrap_i64, dec_t, dec_f]); (first | ((try (first | refine .inl ⟨by omega, by omega, ?_⟩ | refine ⟨by omega, by omega, ?_⟩ | refine ⟨by omega, ?_⟩ | refine .inl ?_)); (first | (intro b; intros; (try have hneA := ne_own (b := b) hown1 (by assumption)); (try have hneB := ne_own (b := b) hown2 (by assumption)); (try have hneC := ne_own (b := b) hown3 (by assumption)); refine hO.out _ _ ?_) | refine hO.out _ _ ?_)) | ((first | refine Tri.call (dropE _ _ _ _ _ _ _ _ HW0.out (by omega)) ?_); (first | rintro _ _ ⟨rfl, h9⟩; replace h9 := h9.symm; subst h9 | rintro _ _ ⟨_, rfl, rfl⟩ | rintro _ _ ⟨_, _, rfl, rfl⟩ | rintro _ _ ⟨_, _, _, rfl, rfl⟩ | rintro _ τ9 ⟨rfl, h9⟩ | rintro _ τ9 ⟨x9, rfl, h9⟩ | rintro _ τ9 ⟨x9, y9, rfl, h9⟩); refine hO.out _ _ ?_)); clear hO; (try clear K9); (first | refine aput_some (by decide) ?_ | refine aput_none ?_)) | refine aops_nil ?_ | refine aseq_normal ?_ | refine aseq_ret ?_ | refine aseq_exit ?_ | refine ablock_normal ?_ | refine ablock_ret ?_ | refine ablock_same ?_ | refine ablock_other (by decide) ?_ | ((repeat ((fail_if_success (refine hK.out _ _ ?_)); clear hK; (try clear hP EG); (try clear KS))); refine hK.out _ _ ?_; clear hK; (try clear hP EG); try clear KS) | refine awp_seq (fun KS hK => ?_) | refine awp_region (fun KS EG hK hP => ?_) | refine awp_block ?_ | refine awp_skip ?_ | refine awp_ret ?_ | refine awp_exit ?_ | (refine awp_condT ?_ ?_; (focus (simp [*]; done))) | (refine awp_condF ?_ ?_; (focus (simp [*]; done))) | ((first | (refine aops_guardF rfl ?_ ?_; (focus (simp [*]; done))) | (refine aops_guardU rfl ?_ ?_; (focus (simp [*]; done)))); (first | refine aput_some (by decide) ?_ | refine aput_none ?_)))
  have hcw := nextW_drop A dep sug came row
  refine awp_loopM [5, 6, 7, 8, 9, 12, 13, 14, 15, 16, 17, 18, 19, 20, 21, 22, 23, 24, 25, 26, 27, 28, 29, 30, 31, 32, 33, 34, 35, 36, 37, 38, 39, 40, 41, 42, 43, 44, 45, 46, 47, 48, 49, 50, 51, 52, 53, 54, 55, 56, 57, 58, 59, 60, 61, 62, 63, 64, 65, 66, 67, 68, 69, 70, 71, 72, 73] (fun X τ' => ∃ (row' : List Stp) (came' : List ByteArray), WalkE σ4 τ' bw bm dep sug row' came' ∧ dropW came' row' = row' ∧ nextW A dep sug row' came' = nextW A dep sug row came ∧ RowOk dep row' ∧ row'.length ≤ row.length) (fun _ τ' => stkLen (τ'.own bw)) ?_ ?_
  · refine .same ⟨mix_self _ _, _, _, h9, dropW_twice _ _, hcw, hrow.drop _, dropW_le _ _⟩
  · rintro X τ' ⟨row', came', hW, hdr, hnx, hrow', hle⟩ _ hL
    have hsl := hW.len
    have HWE := Lib.hid hW
    obtain ⟨bs', cap', ds', h0⟩ := hW
    have hown1 := h0.box
    have hown2 := h0.arr
    have hown3 := h0.map
    have hown4 := h0.le _ _ HO4.out
    have HWS := Lib.hid h0
    have q1 := h0.n1
    have q2 := h0.n2
    have q3 := h0.n3
    have q1' : ¬ bs' = bw := fun e => q1 e.symm
    have q2' : ¬ bm = bw := fun e => q2 e.symm
    have q3' : ¬ bm = bs' := fun e => q3 e.symm
    clear h0 h9 hcw
    replace hnx := Lib.hid hnx
    rcases dropW_self hdr with rfl | ⟨x, r, rfl, hc⟩
    · refine' wlk0
      ((try simp [*]); (try simp (discharger := omega) only [wrap_i64, dec_t, dec_f]))
      have e := hnx.out
      rw [nextW] at e
      rw [← e]
      have HWE2 := HWE.out
      rw [hσ4.out] at HWE2
      exact .mk (stepD none) _ (D.Le.tupL (.cons (.aggL (.cons (.refl _) (.cons (.refl _) (.cons (.nil _ _) .nil)))) (.cons (.refl _) (.cons (.refl _) .nil)))) (St.le_refl _) ⟨rfl, HWE2.over hf4'⟩
    · obtain ⟨hget, hl2⟩ := live_get (HWS.out.live)
      have HL2 := Lib.hid hl2
      have hrx := hrow' x List.mem_cons_self
      have hxd : x.d = [.s x.room, .i x.depth, .lst false 1 (txtD x.via)] := rfl
      rw [hxd] at hget
      have CL := Lib.hid (cloneTxt x.via hrx.2.2.1)
      have RUN := Lib.hid (fun σ => HA.out.run x.room x.via σ hrx.2.2.2)
      have FEW := HA.out.few x.room
      have VIA := Lib.hid (HA.out.via x.room)
      have HROW := Lib.hid hrow'
      have HBE := Lib.hid (RowOk.below (sug := sug) HA.out hrow')
      have hfk := HF.out
      obtain ⟨kd, hkd⟩ : ∃ kd, kd = (A x.room).1 := ⟨_, rfl⟩
      obtain ⟨ch, hch⟩ : ∃ ch, ch = (A x.room).2 := ⟨_, rfl⟩
      have hnx2 := hnx.out
      rw [nextW, if_neg (by rw [hc]; decide), ← hkd, ← hch] at hnx2
      replace hnx2 := Lib.hid hnx2
      rw [fndD, ← hkd, ← hch] at RUN
      rw [← hch] at FEW VIA HBE
      simp only [List.cons_append, List.nil_append] at RUN
      replace hkd := Lib.hid hkd
      replace hch := Lib.hid hch
      replace hc := Lib.hid hc
      clear hl2 hxd hrow' hdr hnx
      simp only [List.length_cons] at hown1 hle hsl
      obtain ⟨hx1, hx2, hx3, hx4⟩ := hrx
      refine' wlk1 CL.out
      (refine awp_draw (fun KS EG hK hP => ?_); refine draw_rule rfl [(0, true), (1, true), (2, false), (3, true), (4, false), (5, false), (6, false)] [7] [8] (by kernel_rfl) ?_; refine' dqs2 CL.out RUN.out)
      obtain ⟨bx, hbx⟩ : ∃ bx, bx = b := ⟨_, rfl⟩
      subst hbx
      have F1 : Fresh τ' bx := by assumption
      have F8 : Fresh τ' b8 := by assumption
      have F18 : ¬ b8 = bx := by assumption
      obtain ⟨u1, u1'⟩ := ne_own hown4 F1
      obtain ⟨u2, u2'⟩ := ne_own hown4 F8
      obtain ⟨u3, u3'⟩ := ne_own hown1 F8
      obtain ⟨u4, u4'⟩ := ne_own hown2 F8
      obtain ⟨u5, u5'⟩ := ne_own hown3 F8
      have HWX := Lib.hid ((HWS.out.with (x := .box 46 [.s x.room, .i x.depth, .lst false 1 (txtD x.via)]) F1).with (x := .box 58 [.i kd, .lst false 5 (ch.map Chd.d)]) ((fresh_set _ _ _ _).2 ⟨⟨F18, fun e => F18 e.symm⟩, F8⟩))
      by_cases hk0 : kd = 0
      · subst hk0
        refine' wlk0
        ((try simp [*]); (try simp (discharger := omega) only [wrap_i64, dec_t, dec_f]))
        have e := hnx2.out
        rw [if_pos rfl] at e
        rw [← e]
        have W1 := WalkE.base ⟨_, _, _, HWX.out⟩ (St.le_set (St.le_set (St.le_refl _) (Fresh.of_le HWS.out.le F1)) (Fresh.of_le HWS.out.le F8))
        rw [hσ4.out] at W1
        exact .same ⟨rfl, W1.over hf4'⟩
      · have hmk := cameE_keys came'
        have hmf := cameE_find came' x.room
        rw [hc.out, if_neg (by decide)] at hmf
        have hput := Lib.hid (cameE_put came' x.room hc.out)
        obtain ⟨es, hes⟩ : ∃ es, es = cameE came' := ⟨_, rfl⟩
        rw [← hes] at hmk hmf hput hown3
        replace hes := Lib.hid hes
        refine' wlk0
        (refine awp_draw (fun KS EG hK hP => ?_); refine draw_rule rfl [(0, true), (1, true), (2, true), (3, false), (4, true), (5, false), (6, false), (7, true)] [] [8] (by kernel_rfl) ?_; refine' dqs0)
        refine' wlk0
        have WP := Lib.hid (HWX.out.pop hc.out)
        rw [← hes.out] at WP
        obtain ⟨σN, hσN⟩ : ∃ σN, σN = (σ4.set bx (some (.box 46 [.s x.room, .i x.depth, .lst false 1 (txtD x.via)]))).set b8 (some (.box 58 [.i kd, .lst false 5 (ch.map Chd.d)])) := ⟨_, rfl⟩
        have HN4 := Lib.hid (show σ4.le σN from hσN ▸ St.le_set (St.le_set (St.le_refl _) (Fresh.of_le HWS.out.le F1)) (Fresh.of_le HWS.out.le F8))
        have HNX := Lib.hid (own_gen2 hσN (fun e => F18 e.symm))
        have HN8 := Lib.hid (own_gen hσN)
        rw [← hσN] at WP
        replace hσN := Lib.hid hσN
        by_cases hk2 : kd = 2
        · subst hk2
          repeat (first | ((first | refine aops_cons (fun K9 hO => ?_) | (refine aops_guardT rfl ?_ (fun K9 hO => ?_); (focus (simp [*]; done)))); simp [*]; (try simp (discharger := omega) only [wrap_i64, dec_t, dec_f]); (first | ((try (first | refine .inl ⟨by omega, by omega, ?_⟩ | refine ⟨by omega, by omega, ?_⟩ | refine ⟨by omega, ?_⟩ | refine .inl ?_)); (first | (intro b; intros; (try have hneA := ne_own (b := b) hown1 (by assumption)); (try have hneB := ne_own (b := b) hown2 (by assumption)); (try have hneC := ne_own (b := b) hown3 (by assumption)); refine hO.out _ _ ?_) | refine hO.out _ _ ?_)) | ((first | refine Tri.call (belowT _ _ _ _ _ _ _ _ x ch WP.out (by omega) (by omega) (by omega) (fun c hc => (VIA.out c hc).1)) ?_); (first | rintro _ _ ⟨rfl, h9⟩; replace h9 := h9.symm; subst h9 | rintro _ _ ⟨_, rfl, rfl⟩ | rintro _ _ ⟨_, _, rfl, rfl⟩ | rintro _ _ ⟨_, _, _, rfl, rfl⟩ | rintro _ τ9 ⟨rfl, h9⟩ | rintro _ τ9 ⟨x9, rfl, h9⟩ | rintro _ τ9 ⟨x9, y9, rfl, h9⟩); refine hO.out _ _ ?_)); clear hO; (try clear K9); (first | refine aput_some (by decide) ?_ | refine aput_none ?_)) | refine aops_nil ?_ | refine aseq_normal ?_ | refine aseq_ret ?_ | refine aseq_exit ?_ | refine ablock_normal ?_ | refine ablock_ret ?_ | refine ablock_same ?_ | refine ablock_other (by decide) ?_ | ((repeat ((fail_if_success (refine hK.out _ _ ?_)); clear hK; (try clear hP EG); (try clear KS))); refine hK.out _ _ ?_; clear hK; (try clear hP EG); try clear KS) | refine awp_seq (fun KS hK => ?_) | refine awp_region (fun KS EG hK hP => ?_) | refine awp_block ?_ | refine awp_skip ?_ | refine awp_ret ?_ | refine awp_exit ?_ | (refine awp_condT ?_ ?_; (focus (simp [*]; done))) | (refine awp_condF ?_ ?_; (focus (simp [*]; done))) | ((first | (refine aops_guardF rfl ?_ ?_; (focus (simp [*]; done))) | (refine aops_guardU rfl ?_ ?_; (focus (simp [*]; done)))); (first | refine aput_some (by decide) ?_ | refine aput_none ?_)))
          have L9 : σN.le τ9 := by
            obtain ⟨_, _, _, h⟩ := h9
            exact h.le
          have o1 := L9 _ _ HNX.out
          have o2 := L9 _ _ HN8.out
          have o4 := L9 _ _ (HN4.out _ _ HO4.out)
          refine' wlk0
          ((try simp [*]); (try simp (discharger := omega) only [wrap_i64, dec_t, dec_f]))
          have e := hnx2.out
          rw [if_neg (by decide), if_pos rfl] at e
          rw [← e]
          have W1 := h9.base HN4.out
          rw [hσ4.out] at W1
          exact .same ⟨rfl, W1.over hf4'⟩
        · repeat (first | ((first | refine aops_cons (fun K9 hO => ?_) | (refine aops_guardT rfl ?_ (fun K9 hO => ?_); (focus (simp [*]; done)))); simp [*]; (try simp (discharger := omega) only [wrap_i64, dec_t, dec_f]); (first | ((try (first | refine .inl ⟨by omega, by omega, ?_⟩ | refine ⟨by omega, by omega, ?_⟩ | refine ⟨by omega, ?_⟩ | refine .inl ?_)); (first | (intro b; intros; (try have hneA := ne_own (b := b) hown1 (by assumption)); (try have hneB := ne_own (b := b) hown2 (by assumption)); (try have hneC := ne_own (b := b) hown3 (by assumption)); refine hO.out _ _ ?_) | refine hO.out _ _ ?_)) | ((first | refine Tri.call (dropE _ _ _ _ _ _ _ _ (WP.out.base HN4.out) (by omega)) ?_); (first | rintro _ _ ⟨rfl, h9⟩; replace h9 := h9.symm; subst h9 | rintro _ _ ⟨_, rfl, rfl⟩ | rintro _ _ ⟨_, _, rfl, rfl⟩ | rintro _ _ ⟨_, _, _, rfl, rfl⟩ | rintro _ τ9 ⟨rfl, h9⟩ | rintro _ τ9 ⟨x9, rfl, h9⟩ | rintro _ τ9 ⟨x9, y9, rfl, h9⟩); refine hO.out _ _ ?_)); clear hO; (try clear K9); (first | refine aput_some (by decide) ?_ | refine aput_none ?_)) | refine aops_nil ?_ | refine aseq_normal ?_ | refine aseq_ret ?_ | refine aseq_exit ?_ | refine ablock_normal ?_ | refine ablock_ret ?_ | refine ablock_same ?_ | refine ablock_other (by decide) ?_ | ((repeat ((fail_if_success (refine hK.out _ _ ?_)); clear hK; (try clear hP EG); (try clear KS))); refine hK.out _ _ ?_; clear hK; (try clear hP EG); try clear KS) | refine awp_seq (fun KS hK => ?_) | refine awp_region (fun KS EG hK hP => ?_) | refine awp_block ?_ | refine awp_skip ?_ | refine awp_ret ?_ | refine awp_exit ?_ | (refine awp_condT ?_ ?_; (focus (simp [*]; done))) | (refine awp_condF ?_ ?_; (focus (simp [*]; done))) | ((first | (refine aops_guardF rfl ?_ ?_; (focus (simp [*]; done))) | (refine aops_guardU rfl ?_ ?_; (focus (simp [*]; done)))); (first | refine aput_some (by decide) ?_ | refine aput_none ?_)))
          have hdl := dropW_le (came' ++ [x.room]) r
          refine hL.out _ _ (.same ⟨mixT, ⟨_, _, h9, dropW_twice _ _, ?_, RowOk.drop (fun s hs => HROW.out s (List.mem_cons_of_mem _ hs)) _, by omega⟩, ?_⟩)
          · rw [nextW_drop]
            have e := hnx2.out
            rw [if_neg hk0, if_neg hk2] at e
            exact e
          · rw [h9.len, hsl]
            omega
end Go.Proofs.YtcmingndbhldgaaDoor
/-
  Walks (chapter 20): all that a walk tells.
-/
namespace Go.Proofs.YtcmingndbhldgaaDoor
open Go.RowKit
set_option maxRecDepth 100000
set_option linter.unusedVariables false
set_option linter.unusedSimpArgs false
attribute [local irreducible] awp aops aop aput aseq ablock TriX Tri Ret Fresh dq adraw dtail dals dfin Wk

theorem nextW_ok {A : ByteArray → Fnd} {af : Nat} {caps : List D} {B : Nat} (hA : AskOk A af caps B) {dep : Int} {sug : Bool} : ∀ (row : List Stp) (came : List ByteArray), RowOk dep row → RowOk dep (nextW A dep sug row came).1.1 ∧ ∀ s k, (nextW A dep sug row came).2 = some (s, k) → s.room.size ≤ 1000 ∧ s.via.length * 16 ≤ 140737488355328
  | [], came, h => ⟨h, by simp [nextW]⟩
  | x :: r, came, h => by
    have hr : RowOk dep r := fun s hs => h s (List.mem_cons_of_mem _ hs)
    have hx := h x List.mem_cons_self
    rw [nextW]
    split
    · exact nextW_ok hA r came hr
    · split
      · refine ⟨h, fun s k e => ?_⟩
        injection e with e
        injection e with e _
        subst e
        exact ⟨hx.2.2.2, hx.2.2.1⟩
      · split
        · refine ⟨h.below hA, fun s k e => ?_⟩
          injection e with e
          injection e with e _
          subst e
          exact ⟨hx.2.2.2, hx.2.2.1⟩
        · exact nextW_ok hA r _ hr
theorem nextW_wt' (A : ByteArray → Fnd) (dep : Int) (sug : Bool) (B : Nat) (hB : ∀ r, (A r).2.length ≤ B) : ∀ (row : List Stp) (came : List ByteArray), wtL B dep (nextW A dep sug row came).1.1 ≤ wtL B dep row
  | [], came => by simp [nextW]
  | x :: rest, came => by
    rw [nextW]
    split
    · have := nextW_wt' A dep sug B hB rest came
      rw [wtL]; omega
    · split
      · exact Nat.le_refl _
      · split
        · have := wtL_below B dep sug x (A x.room).2 (hB _)
          simp only [wtL_append, wtL]
          omega
        · have := nextW_wt' A dep sug B hB rest (came ++ [x.room])
          rw [wtL]; omega
theorem wtN_mono (B : Nat) : ∀ {i j : Nat}, i ≤ j → wtN B i ≤ wtN B j
  | 0, j, _ => wtN_pos B j
  | i + 1, 0, h => absurd h (by omega)
  | i + 1, j + 1, h => by
    rw [wtN, wtN]
    have := Nat.mul_le_mul_left B (wtN_mono B (i := i) (j := j) (by omega))
    omega
theorem wtN_le {B C : Nat} (h : B ≤ C) : ∀ i : Nat, wtN B i ≤ wtN C i
  | 0 => Nat.le_refl _
  | i + 1 => by
    rw [wtN, wtN]
    have := Nat.mul_le_mul h (wtN_le h i)
    omega
theorem len_wt (B : Nat) (dep : Int) : ∀ row : List Stp, row.length ≤ wtL B dep row
  | [] => Nat.zero_le _
  | s :: l => by
    have h1 := len_wt B dep l
    have h2 : 0 < wtS B dep s := wtN_pos _ _
    rw [List.length_cons, wtL]
    omega
/-- The answers' kinds. -/
theorem nextW_kind (A : ByteArray → Fnd) (dep : Int) (sug : Bool) : ∀ (row : List Stp) (came : List ByteArray) (s : Stp) (k : Int), (nextW A dep sug row came).2 = some (s, k) → k = 0 ∨ k = 2
  | [], came, s, k, h => by simp [nextW] at h
  | x :: r, came, s, k, h => by
    rw [nextW] at h
    split at h
    · exact nextW_kind A dep sug r came s k h
    · split at h
      · injection h with h; injection h with _ h; exact .inl h.symm
      · split at h
        · injection h with h; injection h with _ h; exact .inr h.symm
        · exact nextW_kind A dep sug r _ s k h
/-- What is told, the step's answer ahead. -/
def restW (A : ByteArray → Fnd) (dep : Int) (sug : Bool) (f : Nat) (q : List Stp × List ByteArray) : Option (Stp × Int) → List Stp
  | some (s, k) => if k = 2 then s :: allW A dep sug f q.1 q.2 else []
  | none => []
theorem allW_rest (A : ByteArray → Fnd) (dep : Int) (sug : Bool) (f : Nat) (row : List Stp) (came : List ByteArray) : allW A dep sug (f + 1) row came = restW A dep sug f (nextW A dep sug row came).1 (nextW A dep sug row came).2 := by
  rw [allW]
  rcases hn : nextW A dep sug row came with ⟨q, _ | ⟨s, k⟩⟩
  · rfl
  · rcases nextW_kind A dep sug row came s k (by rw [hn]) with rfl | rfl <;> simp [restW]
/-- What a walk from a root tells. -/
def allP (A : ByteArray → Fnd) (root : ByteArray) (dep : Int) (sug : Bool) (B : Nat) : List Stp :=
  if isB 1 root = true ∧ 0 ≤ dep ∧ dep ≤ 10 then allW A dep sug (wtN B 10 + 1) [⟨root, 0, []⟩] [] else []
theorem WalkE.grow {σ τ : St} {bw bm c : Nat} {y : Own} {dep : Int} {sug : Bool} {row : List Stp} {came : List ByteArray} (h : WalkE (σ.set c (some y)) τ bw bm dep sug row came) (hf : Fresh σ c) (z : Own) : WalkE (σ.set c (some z)) (τ.set c (some z)) bw bm dep sug row came := by
  obtain ⟨bs, cap, ds, ⟨h1, h2, h3, h4⟩, k1, k2, k3, k4, k5, k6, k7⟩ := h
  obtain ⟨⟨e1, e1'⟩, k2⟩ := (fresh_set _ _ _ _).1 k2
  obtain ⟨⟨e2, e2'⟩, k3⟩ := (fresh_set _ _ _ _).1 k3
  obtain ⟨⟨e3, e3'⟩, k4⟩ := (fresh_set _ _ _ _).1 k4
  refine ⟨bs, cap, ds, ⟨?_, ?_, ?_, h4⟩, St.set_le (St.le_trans (St.le_set (St.le_refl _) hf) k1), (fresh_set _ _ _ _).2 ⟨⟨e1, e1'⟩, k2⟩, (fresh_set _ _ _ _).2 ⟨⟨e2, e2'⟩, k3⟩, (fresh_set _ _ _ _).2 ⟨⟨e3, e3'⟩, k4⟩, k5, k6, k7⟩
  · rw [own_ne _ _ e1]; exact h1
  · rw [own_ne _ _ e2]; exact h2
  · rw [own_ne _ _ e3]; exact h3
theorem WalkE.sle {σ τ : St} {bw bm : Nat} {dep : Int} {sug : Bool} {row : List Stp} {came : List ByteArray} (h : WalkE σ τ bw bm dep sug row came) : σ.le τ := by
  obtain ⟨_, _, _, h⟩ := h
  exact h.le
def resS : Option (Stp × Int) → Stp
  | some (s, _) => s
  | none => zStp
def resK : Option (Stp × Int) → Int
  | some (_, k) => k
  | none => 1
theorem stepD_eq (r : Option (Stp × Int)) : stepD r = .tup [.agg [.s (resS r).room, .i (resS r).depth, .lst false 1 (txtD (resS r).via)], .i (resK r), .b r.isSome] := by
  rcases r with _ | ⟨s, k⟩ <;> rfl
def dLen : D → Nat
  | .slice _ _ _ ds => ds.length
  | _ => 0
theorem restW_not (A : ByteArray → Fnd) (dep : Int) (sug : Bool) (f : Nat) (q : List Stp × List ByteArray) (r : Option (Stp × Int)) (h : ¬ (r.isSome = true ∧ resK r = 2)) : restW A dep sug f q r = [] := by
  rcases r with _ | ⟨s, k⟩
  · rfl
  · rw [restW, if_neg]
    intro e
    exact h ⟨rfl, e⟩
theorem WalkE.sle_fresh {σ τ : St} {bw bm c : Nat} {dep : Int} {sug : Bool} {row : List Stp} {came : List ByteArray} (_ : WalkE σ τ bw bm dep sug row came) (h : Fresh τ c) : Fresh τ c := h
theorem grow_snoc {σ : St} (tl : List Stp) (s : Stp) (bt cap : Nat) (hb : Fresh σ bt) : GrowT σ 46 3 ((tl ++ [s]).map Stp.d) (.slice (some (bt, cap)) false 3 (tl.map Stp.d ++ [s.d])) (σ.set bt (some (.tip 46 3 cap (tl.length + 1)))) := by
  have := GrowT.more (σ1 := σ) (e := 46) (sz := 3) (ds := (tl ++ [s]).map Stp.d) bt cap hb (by simp)
  rw [List.length_map, List.length_append, List.map_append] at this
  rw [List.map_append]
  exact this
set_option maxHeartbeats 8000000 in
theorem walkAllT (A : ByteArray → Fnd) (af : Nat) (caps : List D) (B : Nat) (hA : AskOk A af caps B) (hB : B ≤ 12) (root : ByteArray) (dep : Int) (sug : Bool) (hr : root.size ≤ 1000) (σ : St) :
    Tri Tryd.prog 9 [.s root, .i dep, .b sug, .fn (.func af) [] caps] σ fun d τ => d = .lst false 3 ((allP A root dep sug B).map Stp.d) ∧ τ = σ := by
  have HN := Lib.hid (walkNewT root dep sug σ hr)
  have HF := Lib.hid hA.fn
  have HA := Lib.hid hA
  clear hA
  by_cases hok : isB 1 root = true ∧ 0 ≤ dep ∧ dep ≤ 10
  · have hP : allP A root dep sug B = allW A dep sug (wtN B 10 + 1) [⟨root, 0, []⟩] [] := if_pos hok
    rw [hP]
    have hN : NewR root dep sug σ = fun d τ => ∃ bw bm, d = .tup [.at bw 0, .v .nilIface] ∧ WalkE σ τ bw bm dep sug [⟨root, 0, []⟩] [] := by funext d τ; unfold NewR; rw [if_pos hok.1, if_pos hok.2]
    rw [hN] at HN
    clear hN hP
    have R0 : RowOk dep [⟨root, 0, []⟩] := fun s hs => by
      rw [List.mem_singleton.1 hs]
      exact ⟨by simp, hok.2.1, by simp, hr⟩
    have hdep := hok.2.2
    have HR0 := Lib.hid R0
    have hw0 : wtL B dep [⟨root, 0, []⟩] ≤ wtN B 10 := by
      simp only [wtL, wtS, Nat.add_zero]
      exact wtN_mono B (by omega)
    have hwB : wtN B 10 ≤ 100000000000 := Nat.le_trans (wtN_le hB 10) (by decide)
    obtain ⟨W10, hW10⟩ : ∃ W10, W10 = wtN B 10 := ⟨_, rfl⟩
    rw [← hW10] at hw0 hwB ⊢
    replace hW10 := Lib.hid hW10
    have hlen1 := len_wt B dep [⟨root, 0, []⟩]
    have NXT := Lib.hid (fun (σ τ : St) (bw bm : Nat) (row : List Stp) (came : List ByteArray) (h : WalkE σ τ bw bm dep sug row came) (hrow : RowOk dep row) (hlen : row.length ≤ 100000000000) => walkNextT A af caps B HA.out σ τ bw bm dep sug row came h hrow hdep (by omega))
    clear hok R0
    refine tri_fn Tryd.func9 rfl Tryd.ntmps9 Tryd.results9 (Nat.le_of_ble_eq_true rfl) ?_
    repeat (first | ((first | refine aops_cons (fun K9 hO => ?_) | (refine aops_guardT rfl ?_ (fun K9 hO => ?_); (focus (simp [*]; done)))); simp [*]; (try simp (discharger := omega) only [wrap_i64, dec_t, dec_f]); (first | ((try (first | refine .inl ⟨by omega, by omega, ?_⟩ | refine ⟨by omega, by omega, ?_⟩ | refine ⟨by omega, ?_⟩ | refine .inl ?_)); (first | (intro b; intros; refine hO.out _ _ ?_) | refine hO.out _ _ ?_)) | ((first | refine Tri.call (HN.out) ?_); (first | rintro _ _ ⟨rfl, h9⟩; replace h9 := h9.symm; subst h9 | rintro _ _ ⟨_, rfl, rfl⟩ | rintro _ _ ⟨_, _, rfl, rfl⟩ | rintro _ _ ⟨_, _, _, rfl, rfl⟩ | rintro _ τ9 ⟨rfl, h9⟩ | rintro _ τ9 ⟨x9, rfl, h9⟩ | rintro _ τ9 ⟨x9, y9, rfl, h9⟩); refine hO.out _ _ ?_)); clear hO; (try clear K9); (first | refine aput_some (by decide) ?_ | refine aput_none ?_)) | refine aops_nil ?_ | refine aseq_normal ?_ | refine aseq_ret ?_ | refine aseq_exit ?_ | refine ablock_normal ?_ | refine ablock_ret ?_ | refine ablock_same ?_ | refine ablock_other (by decide) ?_ | ((repeat ((fail_if_success (refine hK.out _ _ ?_)); clear hK; (try clear hP EG); (try clear KS))); refine hK.out _ _ ?_; clear hK; (try clear hP EG); try clear KS) | refine awp_seq (fun KS hK => ?_) | refine awp_region (fun KS EG hK hP => ?_) | refine awp_block ?_ | refine awp_skip ?_ | refine awp_ret ?_ | refine awp_exit ?_ | (refine awp_condT ?_ ?_; (focus (simp [*]; done))) | (refine awp_condF ?_ ?_; (focus (simp [*]; done))) | ((first | (refine aops_guardF rfl ?_ ?_; (focus (simp [*]; done))) | (refine aops_guardU rfl ?_ ?_; (focus (simp [*]; done)))); (first | refine aput_some (by decide) ?_ | refine aput_none ?_)))
    obtain ⟨bw, hbw⟩ : ∃ bw, bw = x9 := ⟨_, rfl⟩
    subst hbw
    obtain ⟨bm, hbm⟩ : ∃ bm, bm = y9 := ⟨_, rfl⟩
    subst hbm
    have NX := NXT.out σ τ9 bw bm _ _ h9 HR0.out (by simp)
    have HQ := Lib.hid (nextW_wt A dep sug B HA.out.few [⟨root, 0, []⟩] [])
    have HQ' := nextW_wt' A dep sug B HA.out.few [⟨root, 0, []⟩] []
    have HQR := Lib.hid (nextW_ok (sug := sug) HA.out [⟨root, 0, []⟩] [] HR0.out).1
    have HT := Lib.hid (allW_rest A dep sug W10 [⟨root, 0, []⟩] [])
    rcases hn : nextW A dep sug [⟨root, 0, []⟩] [] with ⟨q, res⟩
    rw [hn] at NX HQ HQ' HQR HT
    simp only at HQ'
    rw [stepD_eq] at NX
    replace NX := Lib.hid NX
    clear h9 hn
    repeat (first | ((first | refine aops_cons (fun K9 hO => ?_) | (refine aops_guardT rfl ?_ (fun K9 hO => ?_); (focus (simp [*]; done)))); simp [*]; (try simp (discharger := omega) only [wrap_i64, dec_t, dec_f]); (first | ((try (first | refine .inl ⟨by omega, by omega, ?_⟩ | refine ⟨by omega, by omega, ?_⟩ | refine ⟨by omega, ?_⟩ | refine .inl ?_)); (first | (intro b; intros; refine hO.out _ _ ?_) | refine hO.out _ _ ?_)) | ((first | refine Tri.call (NX.out) ?_); (first | rintro _ _ ⟨rfl, h9⟩; replace h9 := h9.symm; subst h9 | rintro _ _ ⟨_, rfl, rfl⟩ | rintro _ _ ⟨_, _, rfl, rfl⟩ | rintro _ _ ⟨_, _, _, rfl, rfl⟩ | rintro _ τ9 ⟨rfl, h9⟩ | rintro _ τ9 ⟨x9, rfl, h9⟩ | rintro _ τ9 ⟨x9, y9, rfl, h9⟩); refine hO.out _ _ ?_)); clear hO; (try clear K9); (first | refine aput_some (by decide) ?_ | refine aput_none ?_)) | refine aops_nil ?_ | refine aseq_normal ?_ | refine aseq_ret ?_ | refine aseq_exit ?_ | refine ablock_normal ?_ | refine ablock_ret ?_ | refine ablock_same ?_ | refine ablock_other (by decide) ?_ | ((repeat ((fail_if_success (refine hK.out _ _ ?_)); clear hK; (try clear hP EG); (try clear KS))); refine hK.out _ _ ?_; clear hK; (try clear hP EG); try clear KS) | refine awp_seq (fun KS hK => ?_) | refine awp_region (fun KS EG hK hP => ?_) | refine awp_block ?_ | refine awp_skip ?_ | refine awp_ret ?_ | refine awp_exit ?_ | (refine awp_condT ?_ ?_; (focus (simp [*]; done))) | (refine awp_condF ?_ ?_; (focus (simp [*]; done))) | ((first | (refine aops_guardF rfl ?_ ?_; (focus (simp [*]; done))) | (refine aops_guardU rfl ?_ ?_; (focus (simp [*]; done)))); (first | refine aput_some (by decide) ?_ | refine aput_none ?_)))
    obtain ⟨b12, hb12⟩ : ∃ b12, b12 = b := ⟨_, rfl⟩
    subst hb12
    have hf12 : Fresh τ9 b12 := by assumption
    refine awp_loopM [11, 12, 13, 14, 31, 32, 33, 34, 35, 36, 37, 38, 39, 40, 41, 42, 43, 44, 45, 46, 47] (fun X τ' => ∃ (row : List Stp) (came : List ByteArray) (res : Option (Stp × Int)) (f : Nat) (tl : List Stp) (dl : D) (σ1 : St) (b12 : Nat), WalkE (σ1.set b12 (some (.box 46 [.s (resS res).room, .i (resS res).depth, .lst false 1 (txtD (resS res).via)]))) τ' bw bm dep sug row came ∧ Fresh σ1 b12 ∧ GrowT σ 46 3 (tl.map Stp.d) dl σ1 ∧ RowOk dep row ∧ wtL B dep row ≤ W10 ∧ (∀ s, res = some (s, 2) → wtL B dep row < f) ∧ allW A dep sug (W10 + 1) [⟨root, 0, []⟩] [] = tl ++ restW A dep sug f (row, came) res ∧ tl.length + f ≤ W10 ∧ X 11 = dl ∧ X 12 = .at b12 0 ∧ X 13 = .i (resK res) ∧ X 14 = .b res.isSome) (fun X _ => W10 + 1 - dLen (X 11)) ?_ ?_
    · refine .same ⟨mix_self _ _, q.1, q.2, res, W10, [], _, σ, b12, h9.with hf12, Fresh.of_le h9.sle hf12, .start _ _ _, HQR.out, by omega, ?_, HT.out, by simp, ?_, ?_, ?_, ?_⟩
      · rintro s rfl
        have := HQ.out q s rfl
        omega
      all_goals simp [*]
    · rintro X τ' ⟨row1, came1, res1, f, tl, dl, σ1, b1, hW, hfr, hg, hro, hwt, hfw, htot, htl, h11, h12, h13, h14⟩ _ hL
      have HTT := Lib.hid htot
      have HFW := Lib.hid hfw
      have HW := Lib.hid hW
      have HG := Lib.hid hg
      have HRO := Lib.hid hro
      have ho1 := hW.sle _ _ (own_same _ _ _)
      clear htot hfw hg h9 hro
      by_cases hc : res1.isSome = true ∧ resK res1 = 2
      · obtain ⟨hc1, hc2⟩ := hc
        obtain ⟨s, rfl⟩ : ∃ s, res1 = some (s, 2) := by
          rcases res1 with _ | ⟨s, k⟩
          · cases hc1
          · exact ⟨s, by rw [show k = 2 from hc2]⟩
        simp only [resS, resK, Option.isSome_some] at h13 h14 ho1 HW
        clear hc1 hc2
        have hf1 := HFW.out s rfl
        obtain ⟨f', rfl⟩ : ∃ f', f = f' + 1 := ⟨f - 1, by omega⟩
        have HT1 := Lib.hid (show allW A dep sug (W10 + 1) [⟨root, 0, []⟩] [] = (tl ++ [s]) ++ restW A dep sug f' (nextW A dep sug row1 came1).1 (nextW A dep sug row1 came1).2 by
          rw [HTT.out, restW, if_pos rfl, allW_rest, List.append_assoc]
          rfl)
        have NW := Lib.hid (nextW_wt A dep sug B HA.out.few row1 came1)
        have NW' := nextW_wt' A dep sug B HA.out.few row1 came1
        have NO := Lib.hid (nextW_ok (sug := sug) HA.out row1 came1 HRO.out).1
        have hlr := len_wt B dep row1
        have NXX := Lib.hid (fun σ τ h => NXT.out σ τ bw bm row1 came1 h HRO.out (by omega))
        rcases hn : nextW A dep sug row1 came1 with ⟨q', res'⟩
        rw [hn] at HT1 NW NW' NO NXX
        simp only [stepD_eq] at NW' NXX
        clear hn HTT HFW
        rcases HG.out.cases with ⟨e1, rfl, rfl⟩ | ⟨bt, cap, g1, g2, rfl, hσ1⟩
        · obtain rfl : tl = [] := by simpa using e1
          refine' wlk0
          obtain ⟨btn, hbtn⟩ : ∃ btn, btn = b := ⟨_, rfl⟩
          subst hbtn
          have hfb : Fresh τ' btn := by assumption
          obtain ⟨u1, u1'⟩ := ne_own ho1 hfb
          have HB := Lib.hid (HW.out.base (St.le_set (St.le_refl _) hfr))
          have hfs := Fresh.of_le HB.out.sle hfb
          refine' wlk0
          have hnb : ¬ b = btn := by assumption
          have hfb' : Fresh _ b := HB.out.sle_fresh (by first | assumption | exact (fresh_set0 _ _ _).2 (by assumption))
          repeat (first | ((first | refine aops_cons (fun K9 hO => ?_) | (refine aops_guardT rfl ?_ (fun K9 hO => ?_); (focus (simp [*]; done)))); simp [*]; (try simp (discharger := omega) only [wrap_i64, dec_t, dec_f]); (first | ((try (first | refine .inl ⟨by omega, by omega, ?_⟩ | refine ⟨by omega, by omega, ?_⟩ | refine ⟨by omega, ?_⟩ | refine .inl ?_)); (first | (intro b; intros; refine hO.out _ _ ?_) | refine hO.out _ _ ?_)) | ((first | refine Tri.call (NXX.out _ _ ((HB.out.with hfb).with ((fresh_set _ _ _ _).2 ⟨⟨hnb, fun e => hnb e.symm⟩, hfb'⟩))) ?_); (first | rintro _ _ ⟨rfl, h9⟩; replace h9 := h9.symm; subst h9 | rintro _ _ ⟨_, rfl, rfl⟩ | rintro _ _ ⟨_, _, rfl, rfl⟩ | rintro _ _ ⟨_, _, _, rfl, rfl⟩ | rintro _ τ9 ⟨rfl, h9⟩ | rintro _ τ9 ⟨x9, rfl, h9⟩ | rintro _ τ9 ⟨x9, y9, rfl, h9⟩); refine hO.out _ _ ?_)); clear hO; (try clear K9); (first | refine aput_some (by decide) ?_ | refine aput_none ?_)) | refine aops_nil ?_ | refine aseq_normal ?_ | refine aseq_ret ?_ | refine aseq_exit ?_ | refine ablock_normal ?_ | refine ablock_ret ?_ | refine ablock_same ?_ | refine ablock_other (by decide) ?_ | ((repeat ((fail_if_success (refine hK.out _ _ ?_)); clear hK; (try clear hP EG); (try clear KS))); refine hK.out _ _ ?_; clear hK; (try clear hP EG); try clear KS) | refine awp_seq (fun KS hK => ?_) | refine awp_region (fun KS EG hK hP => ?_) | refine awp_block ?_ | refine awp_skip ?_ | refine awp_ret ?_ | refine awp_exit ?_ | (refine awp_condT ?_ ?_; (focus (simp [*]; done))) | (refine awp_condF ?_ ?_; (focus (simp [*]; done))) | ((first | (refine aops_guardF rfl ?_ ?_; (focus (simp [*]; done))) | (refine aops_guardU rfl ?_ ?_; (focus (simp [*]; done)))); (first | refine aput_some (by decide) ?_ | refine aput_none ?_)))
          have ho' := h9.sle _ _ (own_same _ _ _)
          refine' wlk0
          have hF2 := fun (x : Own) => (fresh_set _ btn b x).2 ⟨⟨hnb, fun e => hnb e.symm⟩, Fresh.of_le HB.out.sle hfb'⟩
          refine hL.out _ _ (.same ⟨mixT, ⟨q'.1, q'.2, res', f', ([] ++ [s]), _, _, b, h9.grow (hF2 _) _, hF2 _, grow_snoc _ s btn _ hfs, NO.out, by omega, ?_, HT1.out, ?_, ?_, ?_, ?_, ?_⟩, ?_⟩)
          · rintro s' rfl
            have := NW.out q' s' rfl
            omega
          · have := htl
            simp only [List.length_append, List.length_cons, List.length_nil] at this ⊢
            omega
          · simp [*, Stp.d]
          · simp [*]
          · simp [*]
          · simp [*]
          · have := htl
            (try simp only [List.length_nil] at this)
            simp [*, dLen]
            (try omega)
        · have hbt : τ'.own bt = some (.tip 46 3 cap (tl.map Stp.d).length) := HW.out.sle _ _ (St.le_set (St.le_refl _) hfr _ _ (own_gen hσ1))
          rw [List.length_map] at hbt hσ1
          refine' wlk0
          obtain ⟨btn, hbtn⟩ : ∃ btn, btn = b := ⟨_, rfl⟩
          subst hbtn
          have hfb0 : btn = bt ∨ Fresh τ' btn := by assumption
          have v1 : ¬ b1 = bt := fun e => by rw [e, hbt] at ho1; cases ho1
          have v1' : ¬ bt = b1 := fun e => v1 e.symm
          have u1 : ¬ b1 = btn := by
            rcases hfb0 with e | e
            · rw [e]; exact v1
            · exact (ne_own ho1 e).1
          have u1' : ¬ btn = b1 := fun e => u1 e.symm
          have hfb := (fresh_set0 τ' bt btn).2 hfb0
          have HB := HW.out.base (St.le_set (St.le_refl _) hfr)
          rw [hσ1] at HB
          replace HB := Lib.hid (HB.over (x := none) g1)
          have hfs := Fresh.of_le HB.out.sle hfb
          refine' wlk0
          have hnb : ¬ b = btn := by assumption
          have hfb' : Fresh _ b := HB.out.sle_fresh (by first | assumption | exact (fresh_set0 _ _ _).2 (by assumption))
          repeat (first | ((first | refine aops_cons (fun K9 hO => ?_) | (refine aops_guardT rfl ?_ (fun K9 hO => ?_); (focus (simp [*]; done)))); simp [*]; (try simp (discharger := omega) only [wrap_i64, dec_t, dec_f]); (first | ((try (first | refine .inl ⟨by omega, by omega, ?_⟩ | refine ⟨by omega, by omega, ?_⟩ | refine ⟨by omega, ?_⟩ | refine .inl ?_)); (first | (intro b; intros; refine hO.out _ _ ?_) | refine hO.out _ _ ?_)) | ((first | refine Tri.call (NXX.out _ _ ((HB.out.with hfb).with ((fresh_set _ _ _ _).2 ⟨⟨hnb, fun e => hnb e.symm⟩, hfb'⟩))) ?_); (first | rintro _ _ ⟨rfl, h9⟩; replace h9 := h9.symm; subst h9 | rintro _ _ ⟨_, rfl, rfl⟩ | rintro _ _ ⟨_, _, rfl, rfl⟩ | rintro _ _ ⟨_, _, _, rfl, rfl⟩ | rintro _ τ9 ⟨rfl, h9⟩ | rintro _ τ9 ⟨x9, rfl, h9⟩ | rintro _ τ9 ⟨x9, y9, rfl, h9⟩); refine hO.out _ _ ?_)); clear hO; (try clear K9); (first | refine aput_some (by decide) ?_ | refine aput_none ?_)) | refine aops_nil ?_ | refine aseq_normal ?_ | refine aseq_ret ?_ | refine aseq_exit ?_ | refine ablock_normal ?_ | refine ablock_ret ?_ | refine ablock_same ?_ | refine ablock_other (by decide) ?_ | ((repeat ((fail_if_success (refine hK.out _ _ ?_)); clear hK; (try clear hP EG); (try clear KS))); refine hK.out _ _ ?_; clear hK; (try clear hP EG); try clear KS) | refine awp_seq (fun KS hK => ?_) | refine awp_region (fun KS EG hK hP => ?_) | refine awp_block ?_ | refine awp_skip ?_ | refine awp_ret ?_ | refine awp_exit ?_ | (refine awp_condT ?_ ?_; (focus (simp [*]; done))) | (refine awp_condF ?_ ?_; (focus (simp [*]; done))) | ((first | (refine aops_guardF rfl ?_ ?_; (focus (simp [*]; done))) | (refine aops_guardU rfl ?_ ?_; (focus (simp [*]; done)))); (first | refine aput_some (by decide) ?_ | refine aput_none ?_)))
          have ho' := h9.sle _ _ (own_same _ _ _)
          refine' wlk0
          have hF2 := fun (x : Own) => (fresh_set _ btn b x).2 ⟨⟨hnb, fun e => hnb e.symm⟩, Fresh.of_le HB.out.sle hfb'⟩
          refine hL.out _ _ (.same ⟨mixT, ⟨q'.1, q'.2, res', f', (tl ++ [s]), _, _, b, h9.grow (hF2 _) _, hF2 _, grow_snoc _ s btn _ hfs, NO.out, by omega, ?_, HT1.out, ?_, ?_, ?_, ?_, ?_⟩, ?_⟩)
          · rintro s' rfl
            have := NW.out q' s' rfl
            omega
          · have := htl
            simp only [List.length_append, List.length_cons, List.length_nil] at this ⊢
            omega
          · simp [*, Stp.d]
          · simp [*]
          · simp [*]
          · simp [*]
          · have := htl
            (try simp only [List.length_nil] at this)
            simp [*, dLen]
            (try omega)
      · have hrs := restW_not A dep sug f (row1, came1) res1 hc
        have hfin : ∀ τ'' : St, τ''= τ' → Ret (fun d τ => d = .lst false 3 ((allW A dep sug (W10 + 1) [⟨root, 0, []⟩] []).map Stp.d) ∧ τ = σ) τ'' dl := by
          rintro _ rfl
          rw [HTT.out, hrs, List.append_nil]
          exact .mk _ σ HG.out.le.1 (St.le_trans HG.out.le.2 (St.le_trans (St.le_set (St.le_refl _) hfr) HW.out.sle)) ⟨rfl, rfl⟩
        replace hfin := Lib.hid hfin
        cases hs1 : res1.isSome
        · refine' wlk0
          ((try simp [*]); (try simp (discharger := omega) only [wrap_i64, dec_t, dec_f]))
          exact hfin.out _ rfl
        · have hk2 : ¬ resK res1 = 2 := fun e => hc ⟨hs1, e⟩
          refine' wlk0
          ((try simp [*]); (try simp (discharger := omega) only [wrap_i64, dec_t, dec_f]))
          exact hfin.out _ rfl
  · have hP : allP A root dep sug B = [] := if_neg hok
    rw [hP]
    have hN : ∃ fn cd, NewR root dep sug σ = fun d τ => d = .tup [.v (.pointer none), faultD (-1) fn cd] ∧ τ = σ := by
      cases hb : isB 1 root with
      | false => exact ⟨sRoomId, 7, by funext d τ; unfold NewR; rw [hb, if_neg (by decide)]⟩
      | true =>
        have hd : ¬ (0 ≤ dep ∧ dep ≤ 10) := fun e => hok ⟨hb, e⟩
        exact ⟨sMaxDepth, 8, by funext d τ; unfold NewR; rw [hb, if_pos rfl, if_neg hd]⟩
    obtain ⟨fn, cd, hN⟩ := hN
    rw [hN, faultD] at HN
    clear hN hP hok
    refine tri_fn Tryd.func9 rfl Tryd.ntmps9 Tryd.results9 (Nat.le_of_ble_eq_true rfl) ?_
    repeat (first | ((first | refine aops_cons (fun K9 hO => ?_) | (refine aops_guardT rfl ?_ (fun K9 hO => ?_); (focus (simp [*]; done)))); simp [*]; (try simp (discharger := omega) only [wrap_i64, dec_t, dec_f]); (first | ((try (first | refine .inl ⟨by omega, by omega, ?_⟩ | refine ⟨by omega, by omega, ?_⟩ | refine ⟨by omega, ?_⟩ | refine .inl ?_)); (first | (intro b; intros; refine hO.out _ _ ?_) | refine hO.out _ _ ?_)) | ((first | refine Tri.call (HN.out) ?_); (first | rintro _ _ ⟨rfl, h9⟩; replace h9 := h9.symm; subst h9 | rintro _ _ ⟨_, rfl, rfl⟩ | rintro _ _ ⟨_, _, rfl, rfl⟩ | rintro _ _ ⟨_, _, _, rfl, rfl⟩ | rintro _ τ9 ⟨rfl, h9⟩ | rintro _ τ9 ⟨x9, rfl, h9⟩ | rintro _ τ9 ⟨x9, y9, rfl, h9⟩); refine hO.out _ _ ?_)); clear hO; (try clear K9); (first | refine aput_some (by decide) ?_ | refine aput_none ?_)) | refine aops_nil ?_ | refine aseq_normal ?_ | refine aseq_ret ?_ | refine aseq_exit ?_ | refine ablock_normal ?_ | refine ablock_ret ?_ | refine ablock_same ?_ | refine ablock_other (by decide) ?_ | ((repeat ((fail_if_success (refine hK.out _ _ ?_)); clear hK; (try clear hP EG); (try clear KS))); refine hK.out _ _ ?_; clear hK; (try clear hP EG); try clear KS) | refine awp_seq (fun KS hK => ?_) | refine awp_region (fun KS EG hK hP => ?_) | refine awp_block ?_ | refine awp_skip ?_ | refine awp_ret ?_ | refine awp_exit ?_ | (refine awp_condT ?_ ?_; (focus (simp [*]; done))) | (refine awp_condF ?_ ?_; (focus (simp [*]; done))) | ((first | (refine aops_guardF rfl ?_ ?_; (focus (simp [*]; done))) | (refine aops_guardU rfl ?_ ?_; (focus (simp [*]; done)))); (first | refine aput_some (by decide) ?_ | refine aput_none ?_)))
    ((try simp [*]); (try simp (discharger := omega) only [wrap_i64, dec_t, dec_f]))
    exact .mk _ σ (.nil _ _) (St.le_refl _) ⟨rfl, rfl⟩
end Go.Proofs.YtcmingndbhldgaaDoor
/-
  Walks (chapter 20): what the statements ask.
-/
namespace Go.Proofs.YtcmingndbhldgaaDoor
open Go.RowKit
set_option maxRecDepth 100000
set_option linter.unusedVariables false
set_option linter.unusedSimpArgs false
attribute [local irreducible] awp aops aop aput aseq ablock TriX Tri Ret Fresh dq adraw dtail dals dfin Wk

/-- What a room is, as it is told. -/
structure RF where
  room : ByteArray
  kind : Int
  ch : List Chd
def RF.d (f : RF) : List D := [.s f.room, .i f.kind, .lst false 5 (f.ch.map Chd.d)]
def askR : List RF → ByteArray → RF
  | [], room => ⟨room, 1, []⟩
  | f :: l, room => if f.room = room then f else askR l room
theorem askR_take (l : List RF) (room : ByteArray) (k : Nat) (h : k < l.length) (hn : ∀ f ∈ l.take k, ¬ f.room = room) : askR l room = askR (l.drop k) room := by
  induction k generalizing l with
  | zero => rfl
  | succ k ih =>
    cases l with
    | nil => simp at h
    | cons f l =>
      rw [askR, if_neg (hn f (by simp)), List.drop_succ_cons]
      exact ih l (by simpa using h) fun g hg => hn g (by simp [hg])
theorem askR_at (l : List RF) (room : ByteArray) (k : Nat) (h : k < l.length) (hn : ∀ f ∈ l.take k, ¬ f.room = room) (e : l[k].room = room) : askR l room = l[k] := by
  rw [askR_take l room k h hn, List.drop_eq_getElem_cons h, askR, if_pos e]
theorem askR_none (l : List RF) (room : ByteArray) (hn : ∀ f ∈ l, ¬ f.room = room) : askR l room = ⟨room, 1, []⟩ := by
  induction l with
  | nil => rfl
  | cons f l ih => rw [askR, if_neg (hn f (by simp)), ih fun g hg => hn g (by simp [hg])]
theorem all_snocP {α : Type} {P : α → Prop} {l : List α} {k : Nat} (h : k < l.length) (hn : ∀ f ∈ l.take k, P f) (hk : P l[k]) : ∀ f ∈ l.take (k + 1), P f := by
  intro f hf
  rw [List.take_succ_eq_append_getElem h] at hf
  rcases List.mem_append.1 hf with hf | hf
  · exact hn f hf
  · rw [List.mem_singleton.1 hf]; exact hk
set_option maxHeartbeats 4000000 in
theorem refAskT (l : List RF) (room : ByteArray) (hl : l.length ≤ 100000000000000) (σ : St) : Tri Tryd.prog 24 [.lst false 3 (l.map RF.d), .s room] σ fun d τ => d = .agg (askR l room).d ∧ τ = σ := by
  refine tri_fn Tryd.func24 rfl Tryd.ntmps24 Tryd.results24 (Nat.le_of_ble_eq_true rfl) ?_
  refine' wlk0
  refine' genS
  refine awp_loopM [5, 8, 9, 10, 11, 12, 13, 14, 15, 16, 17, 18, 19, 20, 21, 22] (fun X τ => ∃ k : Nat, k ≤ l.length ∧ X 8 = .i k ∧ (∀ f ∈ l.take k, ¬ f.room = room) ∧ τ = σ1) (fun X _ => l.length - (X 8).int.toNat) ?_ ?_
  · refine .same ⟨mix_self _ _, 0, by omega, ?_, ?_, rfl⟩
    · simp [*]
    · simp
  · rintro X τ ⟨k, hk, h8, hn, rfl⟩ _ hL
    have HNN := Lib.hid hn
    clear hn
    by_cases hlt : k < l.length
    · have hat := Lib.hid (askR_at l room k hlt HNN.out)
      have hd : l[k].d = [.s l[k].room, .i l[k].kind, .lst false 5 (l[k].ch.map Chd.d)] := rfl
      by_cases hr : l[k].room = room
      · have hat2 := hat.out hr
        replace hat2 := Lib.hid hat2
        refine' wlk0
        ((try simp [*]); (try simp (discharger := omega) only [wrap_i64, dec_t, dec_f]))
        refine .mk _ σ (.refl _) (St.le_set HLE.out (by assumption)) ⟨?_, rfl⟩
        rw [hat2.out, hd, hr]
      · refine' wlk0
        refine hL.out _ _ (.less τ leT (.same ⟨mixT, ⟨k + 1, by omega, ?_, ?_, rfl⟩, ?_⟩))
        · simp [*]
        · exact all_snocP hlt HNN.out hr
        · simp [*, D.int]; omega
    · have hke : k = l.length := by omega
      subst hke
      have hno := Lib.hid (askR_none l room (fun f hf => HNN.out f (by rw [List.take_length]; exact hf)))
      refine' wlk0
      ((try simp [*]); (try simp (discharger := omega) only [wrap_i64, dec_t, dec_f]))
      refine .mk _ σ (.aggL (.cons (.refl _) (.cons (.refl _) (.cons (.nil false 5) .nil)))) (St.le_set HLE.out (by assumption)) ⟨?_, rfl⟩
      rw [hno.out]
      rfl
set_option maxHeartbeats 4000000 in
theorem childrenT (l : List Chd) (hl : l.length ≤ 1000000) (hv : ∀ c ∈ l, c.via.length ≤ 1000000) (σ : St) : Tri Tryd.prog 25 [.lst false 5 (l.map Chd.d)] σ fun d τ => d = .lst false 5 (l.map Chd.d) ∧ τ = σ := by
  have HV := Lib.hid hv
  clear hv
  refine tri_fn Tryd.func25 rfl Tryd.ntmps25 Tryd.results25 (Nat.le_of_ble_eq_true rfl) ?_
  refine' wlk0
  refine awp_loopM [3, 5, 8, 9, 10, 11, 12, 13, 14, 15, 16, 17, 18, 19, 20, 21, 22, 23, 24, 25, 26, 27, 28] (fun X τ => ∃ (k : Nat) (dl : D), k ≤ l.length ∧ X 8 = .i k ∧ X 3 = dl ∧ GrowT σ 60 5 ((l.map Chd.d).take k) dl τ) (fun X _ => l.length - (X 8).int.toNat) ?_ ?_
  · exact .same ⟨mix_self _ _, 0, _, by omega, by simp [*], by simp [*], .start _ _ _⟩
  · rintro X τ ⟨k, dl, hk, h8, h3, hg⟩ _ hL
    by_cases hlt : k < l.length
    · have hd : l[k].d = [.s l[k].room, .s l[k].order, .lst false 1 (txtD l[k].via), .b l[k].sug, .i l[k].ts] := rfl
      have hvk := HV.out l[k] (List.getElem_mem hlt)
      have htl := txtD_len l[k].via
      rcases hg.cases_take hlt with ⟨rfl, rfl, rfl⟩ | ⟨bt, cap, g1, g2, rfl, rfl⟩
      · refine' wlk0
        (refine awp_draw (fun KS EG hK hP => ?_); refine draw_rule rfl [(0, true), (1, true), (2, false), (3, true), (4, false), (5, true), (6, true), (7, false), (8, true), (9, true), (10, false), (11, true), (12, false), (13, true), (14, true)] [] [15, 16] (by kernel_rfl) ?_; refine' dqs0)
        rename Nat => cp
        refine' wlk0
        refine hL.out _ _ (Wk.slotG 3 (.slice (some (b, cp)) false 5 [l[0].d]) ?_ (.less (τ.set b (some (.tip 60 5 cp 1))) leT (.same ⟨mixT, ⟨1, _, by omega, ?_, ?_, GrowT.take0 hlt b cp (by assumption)⟩, ?_⟩)))
        · exact LeG.tip (LeGS.snoc (.cons (.refl _) (.cons (.refl _) (.cons (LeG.of (.lst _ _ _ _)) (.cons (.refl _) (.cons (.refl _) .nil))))) [])
        · simp [*]
        · simp [*]
        · simp [*, D.int]; omega
      · have hmin : min k l.length = k := by omega
        refine' wlk0
        (refine awp_draw (fun KS EG hK hP => ?_); refine draw_rule rfl [(0, true), (1, true), (2, false), (3, true), (4, false), (5, true), (6, true), (7, false), (8, true), (9, true), (10, false), (11, true), (12, false), (13, true), (14, true)] [] [15, 16] (by kernel_rfl) ?_; refine' dqs0)
        rename Nat => cp
        refine' wlk0
        refine hL.out _ _ (Wk.slotG 3 (.slice (some (b, cp)) false 5 ((l.map Chd.d).take k ++ [l[k].d])) ?_ (.less (σ.set b (some (.tip 60 5 cp (k + 1)))) leT (.same ⟨mixT, ⟨k + 1, _, by omega, ?_, ?_, GrowT.take hlt b cp (by assumption)⟩, ?_⟩)))
        · exact LeG.tip (LeGS.snoc (.cons (.refl _) (.cons (.refl _) (.cons (LeG.of (.lst _ _ _ _)) (.cons (.refl _) (.cons (.refl _) .nil))))) _)
        · simp [*]
        · simp [*]
        · simp [*, D.int]; omega
    · have hke : k = l.length := by omega
      have hgd := hg.done hke
      refine' wlk0
      ((try simp [*]); (try simp (discharger := omega) only [wrap_i64, dec_t, dec_f]))
      exact .mk _ σ hgd.le.1 hgd.le.2 ⟨rfl, rfl⟩
/-- Rooms that aren't many. -/
def fewR (l : List RF) : Bool := l.all (fun f => decide (f.ch.length ≤ 12) && decide (f.room.size ≤ 150) && f.ch.all fun c => decide (c.room.size ≤ 150) && decide (c.via.length ≤ 8)) && decide (l.length ≤ 16)
/-- What fits into memory. -/
def RFok (l : List RF) : Prop := l.length ≤ 100000000000000 ∧ ∀ f ∈ l, f.ch.length ≤ 100000000000000 ∧ f.room.size ≤ 140737488351232 ∧ ∀ c ∈ f.ch, c.room.size ≤ 140737488351232 ∧ c.via.length ≤ 100000000000000
def askA (l : List RF) (room : ByteArray) : Fnd := ((askR l room).kind, (askR l room).ch)
theorem askT (l : List RF) (σ : St) : Tri Tryd.prog 10 [.lst false 3 (l.map RF.d)] σ fun d τ => d = .fn (.func 23) [] [.ptr [.lst false 3 (l.map RF.d)]] ∧ τ = σ := by
  refine tri_fn Tryd.func10 rfl Tryd.ntmps10 Tryd.results10 (Nat.le_of_ble_eq_true rfl) ?_
  refine' wlk0
  ((try simp [*]); (try simp (discharger := omega) only [wrap_i64, dec_t, dec_f]))
  refine Ret.freeze b (own_same _ _ _) trivial _ (Fz.fn _ [] _ [.ptr [.lst false 3 (l.map RF.d)]] rfl fun k d d' h1 h2 => ?_) ?_
  · rcases k with _ | k
    · injection h1 with h1
      injection h2 with h2
      subst h1; subst h2
      exact Fz.box _ _ 0 rfl
    · simp at h1
  · rw [set_set, set_none (by assumption)]
    exact .same ⟨rfl, rfl⟩
theorem askR_mem (l : List RF) (room : ByteArray) : askR l room ∈ l ∨ askR l room = ⟨room, 1, []⟩ := by
  induction l with
  | nil => exact .inr rfl
  | cons f l ih =>
    rw [askR]
    split
    · exact .inl List.mem_cons_self
    · rcases ih with h | h
      · exact .inl (List.mem_cons_of_mem _ h)
      · exact .inr h
theorem fewR_at {l : List RF} (h : fewR l = true) : l.length ≤ 16 ∧ ∀ f ∈ l, f.ch.length ≤ 12 ∧ f.room.size ≤ 150 ∧ ∀ c ∈ f.ch, c.room.size ≤ 150 ∧ c.via.length ≤ 8 := by
  unfold fewR at h
  simp only [Bool.and_eq_true, List.all_eq_true, decide_eq_true_eq] at h
  exact ⟨h.2, fun f hf => ⟨(h.1 f hf).1.1, (h.1 f hf).1.2, (h.1 f hf).2⟩⟩
theorem askR_few {l : List RF} (h : fewR l = true) (room : ByteArray) : (askR l room).ch.length ≤ 12 ∧ ∀ c ∈ (askR l room).ch, c.room.size ≤ 150 ∧ c.via.length ≤ 8 := by
  obtain ⟨_, h2⟩ := fewR_at h
  rcases askR_mem l room with hm | hm
  · exact ⟨(h2 _ hm).1, (h2 _ hm).2.2⟩
  · rw [hm]; exact ⟨by simp, by simp⟩
set_option maxHeartbeats 4000000 in
theorem ask1T (l : List RF) (hf : fewR l = true) (room : ByteArray) (via : List ByteArray) (σ : St) : Tri Tryd.prog 23 [.s room, .lst false 1 (txtD via), .ptr [.lst false 3 (l.map RF.d)]] σ fun d τ => d = fndD (askA l room) ∧ τ = σ := by
  have hl := (fewR_at hf).1
  obtain ⟨hc, hv⟩ := askR_few hf room
  have RA := Lib.hid (refAskT l room (by omega))
  have CT := Lib.hid (childrenT (askR l room).ch (by omega) (fun c hc => by have := (hv c hc).2; omega))
  rw [RF.d] at RA
  unfold askA
  obtain ⟨f, hf⟩ : ∃ f, f = askR l room := ⟨_, rfl⟩
  rw [← hf] at RA CT ⊢
  clear hf hc hv
  rw [fndD]
  refine tri_fn Tryd.func23 rfl Tryd.ntmps23 Tryd.results23 (Nat.le_of_ble_eq_true rfl) ?_
  refine' wlk1 RA.out
  (refine awp_draw (fun KS EG hK hP => ?_); refine draw_rule rfl [(0, true), (1, false), (2, true), (3, false), (4, false), (5, true)] [] [6] (by kernel_rfl) ?_; refine' dqs1 CT.out)
  refine' wlk0
  ((try simp [*]); (try simp (discharger := omega) only [wrap_i64, dec_t, dec_f]))
  exact .mk _ σ (.refl _) leT ⟨rfl, rfl⟩
theorem ask_ok (l : List RF) (hf : fewR l = true) : AskOk (askA l) 23 [.ptr [.lst false 3 (l.map RF.d)]] 12 where
  fn := fnOk_of (by kernel_rfl)
  run := fun room via σ _ => ask1T l hf room via σ
  few := fun r => (askR_few hf r).1
  via := fun r c hc => by have := (askR_few hf r).2 c hc; omega
@[simp] theorem txtD_get (l : List ByteArray) (k : Nat) (h : k < (txtD l).length) : (txtD l)[k] = [.s (l[k]'(by rw [txtD_len] at h; exact h))] := by simp [txtD]
set_option maxHeartbeats 4000000 in
theorem stringsT (a b : List ByteArray) (ha : a.length ≤ 100000000000000) (σ : St) : Tri Tryd.prog 30 [.lst false 1 (txtD a), .lst false 1 (txtD b)] σ fun d τ => d = .b (decide (a = b)) ∧ τ = σ := by
  have hla := txtD_len a
  have hlb := txtD_len b
  refine tri_fn Tryd.func30 rfl Tryd.ntmps30 Tryd.results30 (Nat.le_of_ble_eq_true rfl) ?_
  by_cases hlen : a.length = b.length
  · refine' wlk0
    refine awp_loopM [4, 5, 13, 14, 15, 16, 17, 18, 19, 20, 21, 22, 23, 24, 25] (fun X τ => ∃ k : Nat, k ≤ a.length ∧ X 13 = .i k ∧ a.take k = b.take k ∧ τ = σ) (fun X _ => a.length - (X 13).int.toNat) ?_ ?_
    · exact .same ⟨mix_self _ _, 0, by omega, by simp [*], by simp, rfl⟩
    · rintro X τ ⟨k, hk, h13, ht, rfl⟩ _ hL
      have HT := Lib.hid ht
      clear ht
      by_cases hlt : k < a.length
      · have hltb : k < b.length := by omega
        by_cases he : a[k] = b[k]
        · refine' wlk0
          (refine awp_draw (fun KS EG hK hP => ?_); refine draw_rule rfl [(0, true), (1, true), (2, true), (3, false), (4, true), (5, true), (6, true), (7, false), (8, true)] [] [] (by kernel_rfl) ?_; refine' dqs0)
          refine' wlk0
          refine hL.out _ _ (.same ⟨mixT, ⟨k + 1, by omega, ?_, ?_, rfl⟩, ?_⟩)
          · simp [*]
          · rw [List.take_succ_eq_append_getElem hlt, List.take_succ_eq_append_getElem hltb, HT.out, he]
          · simp [*, D.int]; omega
        · have hne : ¬ a = b := fun e => he (by subst e; rfl)
          refine' wlk0
          (refine awp_draw (fun KS EG hK hP => ?_); refine draw_rule rfl [(0, true), (1, true), (2, true), (3, false), (4, true), (5, true), (6, true), (7, false), (8, true)] [] [] (by kernel_rfl) ?_; refine' dqs0)
          refine' wlk0
          ((try simp [*]); (try simp (discharger := omega) only [wrap_i64, dec_t, dec_f]))
          exact .same ⟨by simp [*], rfl⟩
      · have hke : k = a.length := by omega
        have hab : a = b := by
          have := HT.out
          rw [hke, List.take_length, hlen, List.take_length] at this
          exact this
        refine' wlk0
        ((try simp [*]); (try simp (discharger := omega) only [wrap_i64, dec_t, dec_f]))
        exact .same ⟨by simp [*], rfl⟩
  · have hne : ¬ a = b := fun e => hlen (by rw [e])
    refine' wlk0
    ((try simp [*]); (try simp (discharger := omega) only [wrap_i64, dec_t, dec_f]))
    exact .same ⟨rfl, rfl⟩
end Go.Proofs.YtcmingndbhldgaaDoor
/-
  Walks (chapter 20): few; is a step the document's; the document's walk begun.
-/
namespace Go.Proofs.YtcmingndbhldgaaDoor
open Go.RowKit
set_option maxRecDepth 100000
set_option linter.unusedVariables false
set_option linter.unusedSimpArgs false
attribute [local irreducible] awp aops aop aput aseq ablock TriX Tri Ret Fresh dq adraw dtail dals dfin Wk

theorem inS_take (l : List ByteArray) (s : ByteArray) (k : Nat) (h : k < l.length) (hn : inS (l.take k) s = false) (hk : ¬ l[k] = s) : inS (l.take (k + 1)) s = false := by
  rw [List.take_succ_eq_append_getElem h]
  unfold inS at hn ⊢
  rw [List.any_append, hn]
  simp [hk]
theorem inS_at (l : List ByteArray) (s : ByteArray) (k : Nat) (h : k < l.length) (hk : l[k] = s) : inS l s = true := (inS_iff l s).2 (hk ▸ List.getElem_mem h)
set_option maxHeartbeats 4000000 in
theorem refInT (l : List ByteArray) (s : ByteArray) (hl : l.length ≤ 100000000000000) (σ : St) : Tri Tryd.prog 29 [.lst false 1 (txtD l), .s s] σ fun d τ => d = .b (inS l s) ∧ τ = σ := by
  have hla := txtD_len l
  refine tri_fn Tryd.func29 rfl Tryd.ntmps29 Tryd.results29 (Nat.le_of_ble_eq_true rfl) ?_
  refine' wlk0
  refine awp_loopM [4, 5, 8, 9, 10, 11, 12, 13, 14, 15, 16, 17] (fun X τ => ∃ k : Nat, k ≤ l.length ∧ X 8 = .i k ∧ inS (l.take k) s = false ∧ τ = σ) (fun X _ => l.length - (X 8).int.toNat) ?_ ?_
  · exact .same ⟨mix_self _ _, 0, by omega, by simp [*], by simp [inS], rfl⟩
  · rintro X τ ⟨k, hk, h8, ht, rfl⟩ _ hL
    have HT := Lib.hid ht
    clear ht
    by_cases hlt : k < l.length
    · by_cases he : l[k] = s
      · have hin := Lib.hid (inS_at l s k hlt he)
        refine' wlk0
        ((try simp [*]); (try simp (discharger := omega) only [wrap_i64, dec_t, dec_f]))
        exact .same ⟨by rw [hin.out], rfl⟩
      · refine' wlk0
        refine hL.out _ _ (.same ⟨mixT, ⟨k + 1, by omega, ?_, inS_take l s k hlt HT.out he, rfl⟩, ?_⟩)
        · simp [*]
        · simp [*, D.int]; omega
    · have hke : k = l.length := by omega
      have hin := HT.out
      rw [hke, List.take_length] at hin
      replace hin := Lib.hid hin
      refine' wlk0
      ((try simp [*]); (try simp (discharger := omega) only [wrap_i64, dec_t, dec_f]))
      exact .same ⟨by rw [hin.out], rfl⟩
def isW (s t : Stp) : Bool := decide (s.room = t.room) && (decide (s.depth = t.depth) && decide (s.via = t.via))
set_option maxHeartbeats 4000000 in
theorem isT (s t : Stp) (hs : s.via.length ≤ 100000000000000) (σ : St) : Tri Tryd.prog 13 [.agg s.d, .agg t.d] σ fun d τ => d = .b (isW s t) ∧ τ = σ := by
  have ST := Lib.hid (stringsT s.via t.via hs)
  have h1 : s.d = [.s s.room, .i s.depth, .lst false 1 (txtD s.via)] := rfl
  have h2 : t.d = [.s t.room, .i t.depth, .lst false 1 (txtD t.via)] := rfl
  rw [h1, h2]
  clear h1 h2
  unfold isW
  refine tri_fn Tryd.func13 rfl Tryd.ntmps13 Tryd.results13 (Nat.le_of_ble_eq_true rfl) ?_
  by_cases e1 : s.room = t.room
  · by_cases e2 : s.depth = t.depth
    · refine' wlk1 ST.out
      ((try simp [*]); (try simp (discharger := omega) only [wrap_i64, dec_t, dec_f]))
      exact .mk _ σ (.refl _) leT ⟨by simp [*], rfl⟩
    · refine' wlk1 ST.out
      ((try simp [*]); (try simp (discharger := omega) only [wrap_i64, dec_t, dec_f]))
      exact .mk _ σ (.refl _) leT ⟨by simp [*], rfl⟩
  · refine' wlk1 ST.out
    ((try simp [*]); (try simp (discharger := omega) only [wrap_i64, dec_t, dec_f]))
    exact .mk _ σ (.refl _) leT ⟨by simp [*], rfl⟩
def fewC (c : Chd) : Bool := decide (c.room.size ≤ 150) && decide (c.via.length ≤ 8)
def fewF (f : RF) : Bool := decide (f.ch.length ≤ 12) && decide (f.room.size ≤ 150) && f.ch.all fewC
theorem fewR_eq (l : List RF) : fewR l = (l.all fewF && decide (l.length ≤ 16)) := rfl
theorem all_bad {α : Type} (l : List α) (p : α → Bool) (k : Nat) (h : k < l.length) (hk : p l[k] = false) : l.all p = false := by
  cases hh : l.all p with
  | false => rfl
  | true => rw [List.all_eq_true.1 hh _ (List.getElem_mem h)] at hk; cases hk
set_option maxHeartbeats 8000000 in
theorem fewT (l : List RF) (hl : RFok l) (σ : St) : Tri Tryd.prog 5 [.lst false 3 (l.map RF.d)] σ fun d τ => d = .b (fewR l) ∧ τ = σ := by
  obtain ⟨hl1, hl2⟩ := hl
  have HL2 := Lib.hid hl2
  clear hl2
  rw [fewR_eq]
  refine tri_fn Tryd.func5 rfl Tryd.ntmps5 Tryd.results5 (Nat.le_of_ble_eq_true rfl) ?_
  refine' wlk0
  refine awp_loopM [2, 4, 6, 9, 10, 11, 12, 13, 14, 15, 16, 17, 18, 19, 20, 21, 22, 23, 24, 25, 26, 27, 28, 29, 30, 31, 32, 33, 34, 35, 36, 37, 38, 39, 40, 41] (fun X τ => ∃ k : Nat, k ≤ l.length ∧ X 9 = .i k ∧ (l.take k).all fewF = true ∧ τ = σ) (fun X _ => l.length - (X 9).int.toNat) ?_ ?_
  · exact .same ⟨mix_self _ _, 0, by omega, by simp [*], by simp, rfl⟩
  · rintro X τ ⟨k, hk, h9, ht, rfl⟩ _ hL
    have HT := Lib.hid ht
    clear ht
    by_cases hlt : k < l.length
    · have hd : l[k].d = [.s l[k].room, .i l[k].kind, .lst false 5 (l[k].ch.map Chd.d)] := rfl
      have hch := (HL2.out l[k] (List.getElem_mem hlt)).1
      have HB := Lib.hid (all_bad l fewF k hlt)
      have HN := Lib.hid (fun (h : fewF l[k] = true) => (show (l.take (k + 1)).all fewF = true by rw [take_all hlt, HT.out, h]; rfl))
      by_cases e1 : 12 < l[k].ch.length
      · have hbad := HB.out (by unfold fewF; rw [decide_eq_false (by omega)]; rfl)
        replace hbad := Lib.hid hbad
        refine' wlk0
        ((try simp [*]); (try simp (discharger := omega) only [wrap_i64, dec_t, dec_f]))
        exact .mk _ τ (.refl _) leT ⟨by rw [hbad.out]; rfl, rfl⟩
      · by_cases e2 : 150 < l[k].room.size
        · have hbad := HB.out (by unfold fewF; rw [decide_eq_false (show ¬ l[k].room.size ≤ 150 by omega), Bool.and_false]; rfl)
          replace hbad := Lib.hid hbad
          refine' wlk0
          ((try simp [*]); (try simp (discharger := omega) only [wrap_i64, dec_t, dec_f]))
          exact .mk _ τ (.refl _) leT ⟨by rw [hbad.out]; rfl, rfl⟩
        · obtain ⟨σ, hσ⟩ : ∃ σ, σ = τ := ⟨_, rfl⟩
          subst hσ
          refine' wlk0
          refine' genS
          refine awp_loopM [2, 6, 26, 27, 28, 29, 30, 31, 32, 33, 34, 35, 36, 37, 38, 39, 40] (fun Z τ => ∃ j : Nat, j ≤ l[k].ch.length ∧ Z 26 = .i j ∧ (l[k].ch.take j).all fewC = true ∧ τ = σ1) (fun Z _ => l[k].ch.length - (Z 26).int.toNat) ?_ ?_
          · exact .same ⟨mix_self _ _, 0, by omega, by simp [*], by simp, rfl⟩
          · rintro Z τ ⟨j, hj, h26, hu, rfl⟩ _ hM
            have HU := Lib.hid hu
            clear hu
            by_cases hjt : j < l[k].ch.length
            · have hdc : l[k].ch[j].d = [.s l[k].ch[j].room, .s l[k].ch[j].order, .lst false 1 (txtD l[k].ch[j].via), .b l[k].ch[j].sug, .i l[k].ch[j].ts] := rfl
              have hvl := txtD_len l[k].ch[j].via
              have HBC := Lib.hid (fun (h : fewC l[k].ch[j] = false) => HB.out (by unfold fewF; rw [all_bad _ fewC j hjt h, Bool.and_false]))
              by_cases e3 : 150 < l[k].ch[j].room.size
              · have hbad := Lib.hid (HBC.out (by unfold fewC; rw [decide_eq_false (by omega)]; rfl))
                refine' wlk0
                ((try simp [*]); (try simp (discharger := omega) only [wrap_i64, dec_t, dec_f]))
                exact .mk _ σ (.refl _) (St.le_trans HLE.out leT) ⟨by rw [hbad.out]; rfl, rfl⟩
              · by_cases e4 : 8 < l[k].ch[j].via.length
                · have hbad := Lib.hid (HBC.out (by unfold fewC; rw [decide_eq_false (show ¬ l[k].ch[j].via.length ≤ 8 by omega), Bool.and_false]))
                  refine' wlk0
                  ((try simp [*]); (try simp (discharger := omega) only [wrap_i64, dec_t, dec_f]))
                  exact .mk _ σ (.refl _) (St.le_trans HLE.out leT) ⟨by rw [hbad.out]; rfl, rfl⟩
                · refine' wlk0
                  refine hM.out _ _ (.less τ leT (.same ⟨mixT, ⟨j + 1, by omega, ?_, ?_, rfl⟩, ?_⟩))
                  · simp [*]
                  · rw [take_all hjt, HU.out]
                    unfold fewC
                    simp
                    omega
                  · simp [*, D.int]; omega
            · have hje : j = l[k].ch.length := by omega
              have hall := HU.out
              rw [hje, List.take_length] at hall
              have hgo := HN.out (by unfold fewF; rw [hall]; simp; omega)
              replace hgo := Lib.hid hgo
              clear hM
              refine' wlk0
              refine hL.out _ _ (.less σ (St.le_trans HLE.out leT) (.same ⟨mixT, ⟨k + 1, by omega, ?_, hgo.out, rfl⟩, ?_⟩))
              · simp [*]
              · simp [*, D.int]; omega
    · have hke : k = l.length := by omega
      have hall := HT.out
      rw [hke, List.take_length] at hall
      replace hall := Lib.hid hall
      refine' wlk0
      ((try simp [*]); (try simp (discharger := omega) only [wrap_i64, dec_t, dec_f]))
      exact .same ⟨by rw [hall.out]; simp; omega, rfl⟩
end Go.Proofs.YtcmingndbhldgaaDoor
/-
  Walks (chapter 20): the document's walk.
-/
namespace Go.Proofs.YtcmingndbhldgaaDoor
open Go.RowKit
set_option maxRecDepth 100000
set_option linter.unusedVariables false
set_option linter.unusedSimpArgs false
attribute [local irreducible] awp aops aop aput aseq ablock TriX Tri Ret Fresh dq adraw dtail dals dfin Wk

def wD (dep : Int) (sug : Bool) (row : List Stp) (came : List ByteArray) : D := .agg [.i dep, .b sug, .lst false 3 (row.map Stp.d), .lst false 1 (txtD came)]
def refD (dep : Int) (sug : Bool) (q : List Stp × List ByteArray) : Option (Stp × Int) → D
  | none => .tup [wD dep sug q.1 q.2, .agg zStp.d, .i 1, .b false]
  | some (s, k) => .tup [wD dep sug q.1 q.2, .agg s.d, .i k, .b true]
theorem awp_genF {P : Program} {n : Nat} {K : AEx → Fr → St → Prop} {F : Fr} {σ : St} {c : Code} (h : ∀ F1, F1 = F → awp P n c K F1 σ) : awp P n c K F σ := h F rfl
theorem fresh_none {τ : St} {bt b : Nat} (h : Fresh τ bt) (hb : b = bt ∨ Fresh τ b) : Fresh τ b := by
  rcases hb with rfl | hb
  · exact h
  · exact hb
def rowLen : Option Own → Nat
  | some (.box _ [_, _, .lst _ _ ds, _]) => ds.length
  | _ => 0
theorem drop_map {x : Stp} {r : List Stp} : (List.drop 1 ((x :: r).map Stp.d)) = r.map Stp.d := rfl
theorem belowL_snoc (sug : Bool) (dep : Int) (l : List Chd) (k : Nat) (h : k < l.length) : belowL sug dep (l.take (k + 1)) = belowL sug dep (l.take k) ++ (if (l[k].sug || !sug) = true then [⟨l[k].room, dep + 1, l[k].via⟩] else []) := by
  rw [List.take_succ_eq_append_getElem h]
  unfold belowL
  rw [List.filter_append, List.map_append]
  congr 1
  rw [List.filter_cons]
  split <;> rfl
theorem grow_snocT {σ : St} (T : TypeId) (tl : List Stp) (s : Stp) (bt cap : Nat) (hb : Fresh σ bt) : GrowT σ T 3 ((tl ++ [s]).map Stp.d) (.slice (some (bt, cap)) false 3 (tl.map Stp.d ++ [s.d])) (σ.set bt (some (.tip T 3 cap (tl.length + 1)))) := by
  have := GrowT.more (σ1 := σ) (e := T) (sz := 3) (ds := (tl ++ [s]).map Stp.d) bt cap hb (by simp)
  rw [List.length_map, List.length_append, List.map_append] at this
  rw [List.map_append]
  exact this
set_option maxHeartbeats 16000000 in
theorem refNextT (l : List RF) (hf : fewR l = true) (dep : Int) (sug : Bool) (row : List Stp) (came : List ByteArray) (hrow : RowOk dep row) (hdep : dep ≤ 10) (hlen : row.length ≤ 100000000000) (hcl : came.length + row.length ≤ 1000000000000) (σ : St) :
    Tri Tryd.prog 12 [wD dep sug row came, .lst false 3 (l.map RF.d)] σ fun d τ => d = refD dep sug (nextW (askA l) dep sug row came).1 (nextW (askA l) dep sug row came).2 ∧ τ = σ := by
  have hl16 := (fewR_at hf).1
  have HRA := Lib.hid (fun room => refAskT l room (by omega))
  have HFW := Lib.hid (fun room => askR_few hf room)
  have HRO := Lib.hid hrow
  clear hrow
  unfold wD
  refine tri_fn Tryd.func12 rfl Tryd.ntmps12 Tryd.results12 (Nat.le_of_ble_eq_true rfl) ?_
  refine' wlk0
  rename_i b2 hf2 b4 hn42 hn24 hf4 p1 p2 p3 p4 p5
  obtain ⟨b5, hb5⟩ : ∃ b5, b5 = b := ⟨_, rfl⟩
  subst hb5
  have hf5 : Fresh σ b5 := by assumption
  have hn52 : ¬ b5 = b2 := by assumption
  have hn54 : ¬ b5 = b4 := by assumption
  have hn25 : ¬ b2 = b5 := fun e => hn52 e.symm
  have hn45 : ¬ b4 = b5 := fun e => hn54 e.symm
  have HFR := Lib.hid (show Fresh σ b2 ∧ Fresh σ b4 ∧ Fresh σ b5 from ⟨hf2, hf4, hf5⟩)
  refine awp_genF (fun FB hFB => ?_)
  have g1 : FB 1 = .lst false 3 (l.map RF.d) := by rw [hFB]; rfl
  have g2 : FB 2 = .at b2 0 := by rw [hFB]; rfl
  have g4 : FB 4 = .at b4 0 := by rw [hFB]; rfl
  have g5 : FB 5 = .at b5 0 := by rw [hFB]; rfl
  clear hFB
  refine awp_loopM [6, 7, 8, 9, 10, 11, 12, 13, 14, 15, 16, 17, 18, 19, 20, 21, 22, 23, 24, 25, 26, 27, 28, 29, 30, 31, 32, 33, 34, 35, 36, 37, 38, 39, 40, 41, 42, 43, 44, 45, 46, 47, 48, 49, 50, 51, 52, 53, 54, 55, 56, 57, 58, 59, 60, 61, 62, 63, 64, 65, 66, 67, 68, 69, 70, 71, 72, 73, 74, 75, 76, 77, 78, 79, 80, 81, 82, 83, 84, 85, 86, 87, 88, 89, 90, 91, 92, 93, 94, 95, 96, 97, 98] (fun X τ => ∃ (row' : List Stp) (came' : List ByteArray), nextW (askA l) dep sug row' came' = nextW (askA l) dep sug row came ∧ row'.length ≤ row.length ∧ came'.length + row'.length ≤ came.length + row.length ∧ RowOk dep row' ∧ τ.own b2 = some (.box 35 [.i dep, .b sug, .lst false 3 (row'.map Stp.d), .lst false 1 (txtD came')]) ∧ τ.own b4 = some (.box 35 [.v (.int .i64 0), .v (.bool false), .v (.slice none 0 0), .v (.slice none 0 0)]) ∧ τ.own b5 = some (.box 50 [.v (.string ByteArray.empty), .v (.int .i64 0), .v (.slice none 0 0)]) ∧ σ.le τ) (fun _ τ => rowLen (τ.own b2)) ?_ ?_
  · refine .same ⟨mix_self _ _, row, came, rfl, Nat.le_refl _, Nat.le_refl _, HRO.out, ?_, ?_, ?_, ?_⟩
    · simp [own_set, *]
    · simp [own_set, *]
    · simp [own_set, *]
    · exact St.le_set (St.le_set (St.le_set (St.le_refl _) hf2) hf4) hf5
  · rintro X τ ⟨row', came', hnx, hrl, hcl', hro, hown1, hown2, hown3, hle⟩ _ hL
    have HNX := Lib.hid hnx
    have HLE := Lib.hid hle
    have HRO' := Lib.hid hro
    clear hnx hle hro
    have hct := txtD_len came'
    rcases row' with _ | ⟨x, r⟩
    · refine' wlk0
      ((try simp [*]); (try simp (discharger := omega) only [wrap_i64, dec_t, dec_f]))
      have e := HNX.out
      rw [nextW] at e
      rw [← e]
      exact Ret.leG (refD dep sug ([], came') none) (LeG.tup (.cons (.refl _) (.cons (.agg (.cons (.refl _) (.cons (.refl _) (.cons (LeG.nil _ _) .nil)))) (.cons (.refl _) (.cons (.refl _) .nil))))) (.less σ (St.le_set (St.le_set HLE.out HFR.out.2.1) HFR.out.2.2) (.same ⟨rfl, rfl⟩))
    · have hxd : x.d = [.s x.room, .i x.depth, .lst false 1 (txtD x.via)] := rfl
      have htk : List.take r.length (r.map Stp.d) = r.map Stp.d := List.take_of_length_le (by simp)
      have RI := Lib.hid (refInT came' x.room (by omega))
      simp only [List.length_cons] at hrl hcl'
      cases hin : inS came' x.room with
      | true =>
        rw [hin] at RI
        refine' wlk1 RI.out
        have F8 := Fresh.of_le HLE.out (show Fresh τ b by assumption)
        refine hL.out _ _ (.same ⟨mixT, ⟨r, came', ?_, by omega, by omega, fun s hs => HRO'.out s (List.mem_cons_of_mem _ hs), ?_, ?_, ?_, St.le_set (St.le_set HLE.out F8) HFR.out.1⟩, ?_⟩)
        · have e := HNX.out
          rw [nextW, if_pos hin] at e
          exact e
        · simp [own_set, *]
        · simp [own_set, *]
        · simp [own_set, *]
        · simp [own_set, *, rowLen]
      | false =>
        rw [hin] at RI
        have RA := Lib.hid (HRA.out x.room)
        have FEW := HFW.out x.room
        have hnx2 := HNX.out
        rw [nextW, if_neg (by rw [hin]; decide)] at hnx2
        have hnx3 : ∀ g, g = askR l x.room → (if g.kind = 0 then ((x :: r, came'), some (x, 0)) else if g.kind = 2 then ((belowW dep sug x g.ch ++ r, came' ++ [x.room]), some (x, 2)) else nextW (askA l) dep sug r (came' ++ [x.room])) = nextW (askA l) dep sug row came := by
          rintro _ rfl
          exact hnx2
        obtain ⟨g, hg⟩ : ∃ g, g = askR l x.room := ⟨_, rfl⟩
        rw [← hg] at RA FEW
        have HN2 := Lib.hid (hnx3 g hg)
        clear hg hnx3 hnx2
        obtain ⟨gr, kd, gc⟩ := g
        simp only at HN2 FEW
        have HFEW := Lib.hid FEW
        have hgd : RF.d ⟨gr, kd, gc⟩ = [.s gr, .i kd, .lst false 5 (gc.map Chd.d)] := rfl
        have hx := HRO'.out x List.mem_cons_self
        rw [hgd] at RA
        clear FEW hin hgd
        refine' wlk1 RI.out
        obtain ⟨b8, hb8⟩ : ∃ b8, b8 = b := ⟨_, rfl⟩
        subst hb8
        have F8 : Fresh τ b8 := by assumption
        refine' wlk1 RA.out
        obtain ⟨b10, hb10⟩ : ∃ b10, b10 = b := ⟨_, rfl⟩
        subst hb10
        have F10 : Fresh τ b10 := by assumption
        have F108 : ¬ b10 = b8 := by assumption
        have F810 : ¬ b8 = b10 := fun e => F108 e.symm
        have F8s := Fresh.of_le HLE.out F8
        have F10s := Fresh.of_le HLE.out F10
        by_cases hk0 : kd = 0
        · subst hk0
          refine' wlk0
          refine awp_drawWk (Wk.freezeB 8 b8 (T := 50) (cs := [.s x.room, .i x.depth, .lst false 1 (txtD x.via)]) rfl (by simp [own_set, *]) ?_)
          rw [set_over _ _ _ _ F810, set_none ((fresh_set _ _ _ _).2 ⟨⟨F810, F108⟩, F8⟩)]
          refine Wk.same ?_
          (refine awp_draw (fun KS EG hK hP => ?_); refine draw_rule rfl [(0, false), (1, true)] [] [2, 3, 4, 5] (by kernel_rfl) ?_; refine' dqs0)
          refine' wlk0
          ((try simp [*]); (try simp (discharger := omega) only [wrap_i64, dec_t, dec_f]))
          have e := HN2.out
          rw [if_pos rfl] at e
          rw [← e]
          exact .mk _ σ (.refl _) (St.le_set (St.le_set (St.le_set HLE.out F10s) HFR.out.2.1) HFR.out.2.2) ⟨rfl, rfl⟩
        · refine' wlk0
          refine awp_drawWk (Wk.freezeB 8 b8 (T := 50) (cs := [.s x.room, .i x.depth, .lst false 1 (txtD x.via)]) rfl (by simp [own_set, *]) ?_)
          rw [set_over _ _ _ _ F810, set_none ((fresh_set _ _ _ _).2 ⟨⟨F810, F108⟩, F8⟩)]
          refine Wk.same ?_
          obtain ⟨KK, hKK⟩ : ∃ KK, KK = KS := ⟨_, rfl⟩
          subst hKK
          have REST : ∀ (F' : Fr) (τ' : St) (CD : D), mix [6, 7, 8, 9, 10, 11, 12, 13, 14, 15, 16, 17, 18, 19, 20, 21, 22, 23, 24, 25, 26, 27, 28, 29, 30, 31, 32, 33, 34, 35, 36, 37, 38, 39, 40, 41, 42, 43, 44, 45, 46, 47, 48, 49, 50, 51, 52, 53, 54, 55, 56, 57, 58, 59, 60, 61, 62, 63, 64, 65, 66, 67, 68, 69, 70, 71, 72, 73, 74, 75, 76, 77, 78, 79, 80, 81, 82, 83, 84, 85, 86, 87, 88, 89, 90, 91, 92, 93, 94, 95, 96, 97, 98] F' FB = F' → F' 1 = .lst false 3 (l.map RF.d) → F' 2 = .at b2 0 → F' 4 = .at b4 0 → F' 5 = .at b5 0 → F' 8 = .ptr [.s x.room, .i x.depth, .lst false 1 (txtD x.via)] → F' 9 = .lst false 3 (r.map Stp.d) → F' 10 = .at b10 0 →
              τ'.own b2 = some (.box 35 [.i dep, .b sug, .lst false 3 (x.d :: r.map Stp.d), CD]) → LeG CD (.lst false 1 (txtD (came' ++ [x.room]))) → τ'.own b4 = some (.box 35 [.v (.int .i64 0), .v (.bool false), .v (.slice none 0 0), .v (.slice none 0 0)]) → τ'.own b5 = some (.box 50 [.v (.string ByteArray.empty), .v (.int .i64 0), .v (.slice none 0 0)]) →
              τ'.own b10 = some (.box 63 [.s gr, .i kd, .lst false 5 (gc.map Chd.d)]) → σ.le τ' → KK F' τ' := by
            intro F' τ' CD hm f1 f2 f4 f5 f8 f9 f10 hown1 hCD hown2 hown3 hown4 hle'
            refine hK.out _ _ ?_
            clear hK HLE F8 F10 F108 F810 F8s F10s
            have HM := Lib.hid hm
            clear hm
            obtain ⟨hx0, hx1, _, _⟩ := hx
            have hgl := HFEW.out.1
            have HN3 := Lib.hid HN2.out
            have HCD := Lib.hid hCD
            have HLE := Lib.hid hle'
            clear hCD hle'
            have hxs := hxd
            by_cases hk2 : kd = 2
            · subst hk2
              by_cases hdd : x.depth < dep
              · have hbl : belowW dep sug x gc = belowL sug x.depth gc := if_pos hdd
                refine' wlk0
                refine awp_loopM [11, 12, 13, 63, 64, 65, 66, 67, 68, 69, 70, 71, 72, 73, 74, 75, 76, 77, 78, 79, 80, 81, 82, 83, 84, 85, 86, 87, 88, 89] (fun Y τ2 => ∃ (k : Nat) (dl : D), k ≤ gc.length ∧ Y 63 = .i k ∧ Y 11 = dl ∧ GrowT τ' 50 3 ((belowL sug x.depth (gc.take k)).map Stp.d) dl τ2) (fun Y _ => gc.length - (Y 63).int.toNat) ?_ ?_
                · exact .same ⟨mix_self _ _, 0, _, by omega, by simp [*], by simp [*], .start _ _ _⟩
                · rintro Y τ2 ⟨k, dl, hk, h63, h11, hg⟩ _ hM
                  by_cases hlt : k < gc.length
                  · have hcd : gc[k].d = [.s gc[k].room, .s gc[k].order, .lst false 1 (txtD gc[k].via), .b gc[k].sug, .i gc[k].ts] := rfl
                    have hbs := belowL_snoc sug x.depth gc k hlt
                    have hbk := belowL_le sug x.depth (gc.take k)
                    rw [List.length_take] at hbk
                    obtain ⟨bl, hb0⟩ : ∃ bl, bl = belowL sug x.depth (gc.take k) := ⟨_, rfl⟩
                    rw [← hb0] at hg hbs hbk
                    replace hbs := Lib.hid hbs
                    clear hb0 hbl
                    rcases hg.cases with ⟨e1, rfl, hτ⟩ | ⟨bt, cap, q1, q2, rfl, hτ⟩ <;> subst τ2
                    · obtain rfl : bl = [] := by simpa using e1
                      have HG := Lib.hid hg
                      clear e1 hg
                      by_cases hsg : gc[k].sug = true
                      · refine' wlk0
                        rename Nat => cp
                        have hfb : Fresh τ' b := by first | assumption | exact fresh_none q1 (by assumption)
                        refine hM.out _ _ (.less (τ'.set b (some (.tip 50 3 cp (([] : List Stp).length + 1)))) leT (.same ⟨mixT, ⟨k + 1, .slice (some (b, cp)) false 3 (([] : List Stp).map Stp.d ++ [[.s gc[k].room, .i (x.depth + 1), .lst false 1 (txtD gc[k].via)]]), by omega, ?_, ?_, ?_⟩, ?_⟩))
                        · simp [*]
                        · simp [*]
                        · rw [hbs.out, if_pos (by simp [*])]
                          exact grow_snocT _ _ ⟨gc[k].room, x.depth + 1, gc[k].via⟩ b cp hfb
                        · simp [*, D.int]; omega
                      · cases hsu : sug
                        · subst hsu
                          refine' wlk0
                          rename Nat => cp
                          have hfb : Fresh τ' b := by first | assumption | exact fresh_none q1 (by assumption)
                          refine hM.out _ _ (.less (τ'.set b (some (.tip 50 3 cp (([] : List Stp).length + 1)))) leT (.same ⟨mixT, ⟨k + 1, .slice (some (b, cp)) false 3 (([] : List Stp).map Stp.d ++ [[.s gc[k].room, .i (x.depth + 1), .lst false 1 (txtD gc[k].via)]]), by omega, ?_, ?_, ?_⟩, ?_⟩))
                          · simp [*]
                          · simp [*]
                          · rw [hbs.out, if_pos (by simp [*])]
                            exact grow_snocT _ _ ⟨gc[k].room, x.depth + 1, gc[k].via⟩ b cp hfb
                          · simp [*, D.int]; omega
                        · subst hsu
                          refine' wlk0
                          refine hM.out _ _ (.less τ' leT (.same ⟨mixT, ⟨k + 1, (.v (.slice none 0 0)), by omega, ?_, ?_, ?_⟩, ?_⟩))
                          · simp [*]
                          · simp [*]
                          · rw [hbs.out, if_neg (by simp [*]), List.append_nil]
                            exact HG.out
                          · simp [*, D.int]; omega
                    · simp only [List.length_map] at hg ⊢
                      obtain ⟨w1, w1'⟩ := ne_own hown1 q1
                      obtain ⟨w2, w2'⟩ := ne_own hown2 q1
                      obtain ⟨w3, w3'⟩ := ne_own hown3 q1
                      obtain ⟨w4, w4'⟩ := ne_own hown4 q1
                      have HG := Lib.hid hg
                      clear hg q2
                      by_cases hsg : gc[k].sug = true
                      · refine' wlk0
                        rename Nat => cp
                        have hfb : Fresh τ' b := by first | assumption | exact fresh_none q1 (by assumption)
                        refine hM.out _ _ (.less (τ'.set b (some (.tip 50 3 cp ((bl : List Stp).length + 1)))) leT (.same ⟨mixT, ⟨k + 1, .slice (some (b, cp)) false 3 ((bl : List Stp).map Stp.d ++ [[.s gc[k].room, .i (x.depth + 1), .lst false 1 (txtD gc[k].via)]]), by omega, ?_, ?_, ?_⟩, ?_⟩))
                        · simp [*]
                        · simp [*]
                        · rw [hbs.out, if_pos (by simp [*])]
                          exact grow_snocT _ _ ⟨gc[k].room, x.depth + 1, gc[k].via⟩ b cp hfb
                        · simp [*, D.int]; omega
                      · cases hsu : sug
                        · subst hsu
                          refine' wlk0
                          rename Nat => cp
                          have hfb : Fresh τ' b := by first | assumption | exact fresh_none q1 (by assumption)
                          refine hM.out _ _ (.less (τ'.set b (some (.tip 50 3 cp ((bl : List Stp).length + 1)))) leT (.same ⟨mixT, ⟨k + 1, .slice (some (b, cp)) false 3 ((bl : List Stp).map Stp.d ++ [[.s gc[k].room, .i (x.depth + 1), .lst false 1 (txtD gc[k].via)]]), by omega, ?_, ?_, ?_⟩, ?_⟩))
                          · simp [*]
                          · simp [*]
                          · rw [hbs.out, if_pos (by simp [*])]
                            exact grow_snocT _ _ ⟨gc[k].room, x.depth + 1, gc[k].via⟩ b cp hfb
                          · simp [*, D.int]; omega
                        · subst hsu
                          refine' wlk0
                          refine hM.out _ _ (.less (τ'.set bt (some (.tip 50 3 cap bl.length))) leT (.same ⟨mixT, ⟨k + 1, (.slice (some (bt, cap)) false 3 (bl.map Stp.d)), by omega, ?_, ?_, ?_⟩, ?_⟩))
                          · simp [*]
                          · simp [*]
                          · rw [hbs.out, if_neg (by simp [*]), List.append_nil]
                            exact HG.out
                          · simp [*, D.int]; omega
                  · have hke : k = gc.length := by omega
                    rw [hke, List.take_length] at hg
                    clear hke hk hM
                    have hbk := belowL_le sug x.depth gc
                    obtain ⟨bl, hb0⟩ : ∃ bl, bl = belowL sug x.depth gc := ⟨_, rfl⟩
                    rw [← hb0] at hg hbl hbk
                    clear hb0
                    rcases hg.cases with ⟨e1, rfl, hτ⟩ | ⟨bt, cap, q1, q2, rfl, hτ⟩ <;> subst τ2
                    · obtain rfl : bl = [] := by simpa using e1
                      clear e1 hg
                      rcases r with _ | ⟨y, ys⟩
                      · refine' wlk0
                        (try (have hq10 := ne_own (b := b) hown4 (by assumption)))
                        refine' wlk0
                        (refine awp_draw (fun KS EG hK hP => ?_); refine draw_rule rfl [(0, false), (1, true)] [] [2, 3, 4, 5] (by kernel_rfl) ?_; refine' dqs0)
                        refine' wlk0
                        ((try simp [*]); (try simp (discharger := omega) only [wrap_i64, dec_t, dec_f]))
                        have e := HN3.out
                        rw [if_neg (by decide), if_pos rfl] at e
                        rw [← e]
                        refine Ret.leG (refD dep sug (belowW dep sug x gc ++ _, came' ++ [x.room]) (some (x, 2))) (LeG.tup (.cons (.agg (.cons (.refl _) (.cons (.refl _) (.cons (by rw [hbl]; exact LeG.nil _ _) (.cons HCD.out .nil))))) (.cons (.refl _) (.cons (.refl _) (.cons (.refl _) .nil))))) (.less σ ?_ (.same ⟨rfl, rfl⟩))
                        repeat (first | exact HLE.out | (refine St.le_set ?_ ?_; rotate_left; (focus (first | exact HFR.out.1 | exact HFR.out.2.1 | exact HFR.out.2.2 | exact Fresh.of_le HLE.out (by assumption)))))
                      · have hyl : ys.length ≤ 100000000000 := by simp only [List.length_cons] at hrl; omega
                        refine' wlk0
                        (try (have hq10 := ne_own (b := b) hown4 (by assumption)))
                        refine' wlk0
                        (refine awp_draw (fun KS EG hK hP => ?_); refine draw_rule rfl [(0, false), (1, true)] [] [2, 3, 4, 5] (by kernel_rfl) ?_; refine' dqs0)
                        refine' wlk0
                        ((try simp [*]); (try simp (discharger := omega) only [wrap_i64, dec_t, dec_f]))
                        have e := HN3.out
                        rw [if_neg (by decide), if_pos rfl] at e
                        rw [← e]
                        refine Ret.leG (refD dep sug (belowW dep sug x gc ++ _, came' ++ [x.room]) (some (x, 2))) (LeG.tup (.cons (.agg (.cons (.refl _) (.cons (.refl _) (.cons (by rw [hbl]; exact LeG.of (.lst _ _ _ _)) (.cons HCD.out .nil))))) (.cons (.refl _) (.cons (.refl _) (.cons (.refl _) .nil))))) (.less σ ?_ (.same ⟨rfl, rfl⟩))
                        repeat (first | exact HLE.out | (refine St.le_set ?_ ?_; rotate_left; (focus (first | exact HFR.out.1 | exact HFR.out.2.1 | exact HFR.out.2.2 | exact Fresh.of_le HLE.out (by assumption)))))
                    · simp only [List.length_map] at hg ⊢
                      obtain ⟨w1, w1'⟩ := ne_own hown1 q1
                      obtain ⟨w2, w2'⟩ := ne_own hown2 q1
                      obtain ⟨w3, w3'⟩ := ne_own hown3 q1
                      obtain ⟨w4, w4'⟩ := ne_own hown4 q1
                      clear hg q2
                      refine' wlk0
                      have hfb : Fresh τ' b := by first | assumption | exact fresh_none q1 (by assumption)
                      obtain ⟨v1, v1'⟩ := ne_own hown1 hfb
                      obtain ⟨v2, v2'⟩ := ne_own hown2 hfb
                      obtain ⟨v3, v3'⟩ := ne_own hown3 hfb
                      obtain ⟨v4, v4'⟩ := ne_own hown4 hfb
                      refine' wlk0
                      (try (have hq10 := ne_own (b := b) hown4 (by assumption)))
                      refine' wlk0
                      (refine awp_draw (fun KS EG hK hP => ?_); refine draw_rule rfl [(0, false), (1, true)] [] [2, 3, 4, 5] (by kernel_rfl) ?_; refine' dqs0)
                      refine' wlk0
                      ((try simp [*]); (try simp (discharger := omega) only [wrap_i64, dec_t, dec_f]))
                      have e := HN3.out
                      rw [if_neg (by decide), if_pos rfl] at e
                      rw [← e]
                      refine Ret.leG (refD dep sug (belowW dep sug x gc ++ _, came' ++ [x.room]) (some (x, 2))) (LeG.tup (.cons (.agg (.cons (.refl _) (.cons (.refl _) (.cons (by rw [hbl, List.map_append]; exact LeG.of (.lst _ _ _ _)) (.cons HCD.out .nil))))) (.cons (.refl _) (.cons (.refl _) (.cons (.refl _) .nil))))) (.less σ ?_ (.same ⟨rfl, rfl⟩))
                      repeat (first | exact HLE.out | (refine St.le_set ?_ ?_; rotate_left; (focus (first | exact HFR.out.1 | exact HFR.out.2.1 | exact HFR.out.2.2 | exact Fresh.of_le HLE.out (by assumption)))))
              · have hbw : belowW dep sug x gc = [] := if_neg hdd
                rcases r with _ | ⟨y, ys⟩
                · refine' wlk0
                  (try (have hq10 := ne_own (b := b) hown4 (by assumption)))
                  refine' wlk0
                  (refine awp_draw (fun KS EG hK hP => ?_); refine draw_rule rfl [(0, false), (1, true)] [] [2, 3, 4, 5] (by kernel_rfl) ?_; refine' dqs0)
                  refine' wlk0
                  ((try simp [*]); (try simp (discharger := omega) only [wrap_i64, dec_t, dec_f]))
                  have e := HN3.out
                  rw [if_neg (by decide), if_pos rfl] at e
                  rw [← e]
                  refine Ret.leG (refD dep sug (belowW dep sug x gc ++ _, came' ++ [x.room]) (some (x, 2))) (LeG.tup (.cons (.agg (.cons (.refl _) (.cons (.refl _) (.cons (by rw [hbw]; exact LeG.nil _ _) (.cons HCD.out .nil))))) (.cons (.refl _) (.cons (.refl _) (.cons (.refl _) .nil))))) (.less σ ?_ (.same ⟨rfl, rfl⟩))
                  repeat (first | exact HLE.out | (refine St.le_set ?_ ?_; rotate_left; (focus (first | exact HFR.out.1 | exact HFR.out.2.1 | exact HFR.out.2.2 | exact Fresh.of_le HLE.out (by assumption)))))
                · have hyl : ys.length ≤ 100000000000 := by simp only [List.length_cons] at hrl; omega
                  refine' wlk0
                  (try (have hq10 := ne_own (b := b) hown4 (by assumption)))
                  refine' wlk0
                  (refine awp_draw (fun KS EG hK hP => ?_); refine draw_rule rfl [(0, false), (1, true)] [] [2, 3, 4, 5] (by kernel_rfl) ?_; refine' dqs0)
                  refine' wlk0
                  ((try simp [*]); (try simp (discharger := omega) only [wrap_i64, dec_t, dec_f]))
                  have e := HN3.out
                  rw [if_neg (by decide), if_pos rfl] at e
                  rw [← e]
                  refine Ret.leG (refD dep sug (belowW dep sug x gc ++ _, came' ++ [x.room]) (some (x, 2))) (LeG.tup (.cons (.agg (.cons (.refl _) (.cons (.refl _) (.cons (by rw [hbw]; exact LeG.of (.lst _ _ _ _)) (.cons HCD.out .nil))))) (.cons (.refl _) (.cons (.refl _) (.cons (.refl _) .nil))))) (.less σ ?_ (.same ⟨rfl, rfl⟩))
                  repeat (first | exact HLE.out | (refine St.le_set ?_ ?_; rotate_left; (focus (first | exact HFR.out.1 | exact HFR.out.2.1 | exact HFR.out.2.2 | exact Fresh.of_le HLE.out (by assumption)))))
            · rcases r with _ | ⟨y, ys⟩
              · refine' wlk0
                (try (have hq10 := ne_own (b := b) hown4 (by assumption)))
                refine' wlk0
                refine hL.out _ _ (Wk.boxLe b2 (T := 35) (cs := [.i dep, .b sug, _, CD]) [.i dep, .b sug, .lst false 3 (([] : List Stp).map Stp.d), .lst false 1 (txtD (came' ++ [x.room]))] (own_same _ _ _) (.cons (.refl _) (.cons (.refl _) (.cons ?_ (.cons HCD.out .nil)))) (.same ⟨?_, ⟨[], came' ++ [x.room], ?_, ?_, ?_, fun s hs => HRO'.out s (List.mem_cons_of_mem _ hs), own_same _ _ _, ?_, ?_, ?_⟩, ?_⟩))
                · exact (LeG.nil _ _)
                · simp (discharger := decide) only [mix_upd]
                  rw [HM.out]
                · have e := HN3.out
                  rw [if_neg hk0, if_neg hk2] at e
                  exact e
                · omega
                · simp only [List.length_append, List.length_cons, List.length_nil] at hcl' ⊢
                  omega
                · simp [own_set, *]
                · simp [own_set, *]
                · rw [set_set]
                  repeat (first | exact HLE.out | (refine St.le_set ?_ ?_; rotate_left; (focus (first | exact HFR.out.1 | exact HFR.out.2.1 | exact HFR.out.2.2 | exact Fresh.of_le HLE.out (by assumption)))))
                · rw [own_same]
                  simp [own_set, *, rowLen]
              · have hyl : ys.length ≤ 100000000000 := by simp only [List.length_cons] at hrl; omega
                refine' wlk0
                (try (have hq10 := ne_own (b := b) hown4 (by assumption)))
                refine' wlk0
                refine hL.out _ _ (Wk.boxLe b2 (T := 35) (cs := [.i dep, .b sug, _, CD]) [.i dep, .b sug, .lst false 3 (((y :: ys) : List Stp).map Stp.d), .lst false 1 (txtD (came' ++ [x.room]))] (own_same _ _ _) (.cons (.refl _) (.cons (.refl _) (.cons ?_ (.cons HCD.out .nil)))) (.same ⟨?_, ⟨(y :: ys), came' ++ [x.room], ?_, ?_, ?_, fun s hs => HRO'.out s (List.mem_cons_of_mem _ hs), own_same _ _ _, ?_, ?_, ?_⟩, ?_⟩))
                · exact (LeG.of (.lst _ _ _ _))
                · simp (discharger := decide) only [mix_upd]
                  rw [HM.out]
                · have e := HN3.out
                  rw [if_neg hk0, if_neg hk2] at e
                  exact e
                · omega
                · simp only [List.length_append, List.length_cons, List.length_nil] at hcl' ⊢
                  omega
                · simp [own_set, *]
                · simp [own_set, *]
                · rw [set_set]
                  repeat (first | exact HLE.out | (refine St.le_set ?_ ?_; rotate_left; (focus (first | exact HFR.out.1 | exact HFR.out.2.1 | exact HFR.out.2.2 | exact Fresh.of_le HLE.out (by assumption)))))
                · rw [own_same]
                  simp [own_set, *, rowLen]
          clear hK
          have HR := Lib.hid REST
          clear REST
          rcases came' with _ | ⟨c0, cs⟩
          · have ht0 : txtD ([] : List ByteArray) = [] := rfl
            (refine awp_draw (fun KS EG hK hP => ?_); refine draw_rule rfl [(0, true), (1, true), (2, false), (4, true), (5, true), (6, true)] [] [3, 7, 8, 9] (by kernel_rfl) ?_; repeat (first | ((first | refine dq_pu rfl ?_ | refine dq_rd rfl ?_ | (refine dq_gTp rfl rfl ?_ ?_; (focus (simp [*]; done))) | (refine dq_gTr rfl rfl ?_ ?_; (focus (simp [*]; done)))); constructor; refine And.intro (fun _ _ hO => ?_) ?_; (focus (simp [*]; (try simp (discharger := omega) only [wrap_i64, dec_t, dec_f]); (first | ((try (first | refine .inl ⟨?_, by omega, by omega⟩ | refine ⟨by omega, by omega, ?_⟩ | refine ⟨by omega, ?_⟩ | refine .inl ?_)); exact hO.out _ _ (.refl _) (St.le_refl _))))); (first | refine aput_some (by decide) ?_ | refine aput_none ?_)) | ((first | (refine dq_gF rfl rfl ?_ ?_; (focus (simp [*]; done))) | (refine dq_gU rfl rfl ?_ ?_; (focus (simp [*]; done)))); (first | refine aput_some (by decide) ?_ | refine aput_none ?_)) | refine dq_nil ?_))
            refine dtail_none ?_
            refine aops_idx rfl (fun K9 hO => ?_)
            simp [*]
            refine .inr (hO.out _ _ ?_)
            clear hO
            refine aput_some (by decide) ?_
            refine' dqs0
            refine aseq_normal (HR.out _ _ (.slice none false 1 [[.s x.room]]) mixT ?_ ?_ ?_ ?_ ?_ ?_ ?_ ?_ (LeG.of (.lst _ _ _ _)) ?_ ?_ ?_ (St.le_set (St.le_set HLE.out F10s) HFR.out.1))
            all_goals simp [own_set, *]
          · have hcb : cs.length ≤ 1000000000000 := by
              simp only [List.length_cons] at hcl'
              omega
            have ht1 : txtD (c0 :: cs) = [.s c0] :: txtD cs := rfl
            (refine awp_draw (fun KS EG hK hP => ?_); refine draw_rule rfl [(0, true), (1, true), (2, false), (4, true), (5, true), (6, true)] [] [3, 7, 8, 9] (by kernel_rfl) ?_; repeat (first | ((first | refine dq_pu rfl ?_ | refine dq_rd rfl ?_ | (refine dq_gTp rfl rfl ?_ ?_; (focus (simp [*]; done))) | (refine dq_gTr rfl rfl ?_ ?_; (focus (simp [*]; done)))); constructor; refine And.intro (fun _ _ hO => ?_) ?_; (focus (simp [*]; (try simp (discharger := omega) only [wrap_i64, dec_t, dec_f]); (first | ((try (first | refine .inl ⟨?_, by omega, by omega⟩ | refine ⟨by omega, by omega, ?_⟩ | refine ⟨by omega, ?_⟩ | refine .inl ?_)); exact hO.out _ _ (.refl _) (St.le_refl _))))); (first | refine aput_some (by decide) ?_ | refine aput_none ?_)) | ((first | (refine dq_gF rfl rfl ?_ ?_; (focus (simp [*]; done))) | (refine dq_gU rfl rfl ?_ ?_; (focus (simp [*]; done)))); (first | refine aput_some (by decide) ?_ | refine aput_none ?_)) | refine dq_nil ?_))
            refine dtail_none ?_
            refine aops_idx rfl (fun K9 hO => ?_)
            simp [*]
            refine .inr (.inl ⟨by omega, by omega, fun bt cp h1 h2 h3 h4 => hO.out _ _ ?_⟩)
            clear hO
            refine aput_some (by decide) ?_
            have hbt1 := ne_own hown1 h3
            have hbt2 := ne_own hown2 h3
            have hbt3 := ne_own hown3 h3
            refine' dqs0
            rename Nat => cq
            have F9s : Fresh σ b := Fresh.of_le HLE.out (by first | assumption | exact (fresh_none h3 (by assumption)))
            refine aseq_normal (HR.out _ _ (.slice (some (b, cq)) false 1 ([.s c0] :: (txtD cs ++ [[.s x.room]]))) mixT ?_ ?_ ?_ ?_ ?_ ?_ ?_ ?_ ?_ ?_ ?_ ?_ (St.le_set (St.le_set (St.le_set HLE.out F10s) F9s) HFR.out.1))
            case refine_9 =>
              have e : txtD (c0 :: cs ++ [x.room]) = [.s c0] :: (txtD cs ++ [[.s x.room]]) := by simp [txtD]
              rw [e]
              exact LeG.of (.lst _ _ _ _)
            all_goals simp [own_set, *]
end Go.Proofs.YtcmingndbhldgaaDoor
/-
  Walks (chapter 20): the document's walk, whole.
-/
namespace Go.Proofs.YtcmingndbhldgaaDoor
open Go.RowKit
set_option maxRecDepth 100000
set_option linter.unusedVariables false
set_option linter.unusedSimpArgs false
attribute [local irreducible] awp aops aop aput aseq ablock TriX Tri Ret Fresh dq adraw dtail dals dfin Wk

def eD (code : Int) (path : ByteArray) : D := .agg [.i code, .i (-1), .s path]
theorem refNoneT (σ : St) : Tri Tryd.prog 21 [] σ fun d τ => d = eD 0 ByteArray.empty ∧ τ = σ := by
  refine tri_fn Tryd.func21 rfl Tryd.ntmps21 Tryd.results21 (Nat.le_of_ble_eq_true rfl) ?_
  refine' wlk0
  ((try simp [*]); (try simp (discharger := omega) only [wrap_i64, dec_t, dec_f]))
  exact .mk _ σ (.refl _) leT ⟨rfl, rfl⟩
theorem refErrT (c : Int) (σ : St) : Tri Tryd.prog 20 [.i c] σ fun d τ => d = eD c ByteArray.empty ∧ τ = σ := by
  refine tri_fn Tryd.func20 rfl Tryd.ntmps20 Tryd.results20 (Nat.le_of_ble_eq_true rfl) ?_
  refine' wlk0
  ((try simp [*]); (try simp (discharger := omega) only [wrap_i64, dec_t, dec_f]))
  exact .mk _ σ (.refl _) leT ⟨rfl, rfl⟩
def slash : ByteArray := ⟨#[47]⟩
theorem refInE (s : ByteArray) (c : Int) (hs : s.size ≤ 1000) (hc : ¬ c = 0) (σ : St) : Tri Tryd.prog 19 [.s s, eD c ByteArray.empty] σ fun d τ => d = eD c (slash ++ s) ∧ τ = σ := by
  have e1 : (slash ++ s).size = 1 + s.size := by rw [ByteArray.size_append]; rfl
  have e2 : ByteArray.empty.size = 0 := rfl
  have e3 : slash.size = 1 := rfl
  unfold eD
  have hsl : (⟨#[47]⟩ : ByteArray) = slash := rfl
  refine tri_fn Tryd.func19 rfl Tryd.ntmps19 Tryd.results19 (Nat.le_of_ble_eq_true rfl) ?_
  refine' wlk0
  ((try simp [*]); (try simp (discharger := omega) only [wrap_i64, dec_t, dec_f]))
  exact .mk _ σ (.refl _) leT ⟨rfl, rfl⟩
theorem nextW_came (A : ByteArray → Fnd) (dep : Int) (sug : Bool) (B : Nat) (hB : ∀ r, (A r).2.length ≤ B) : ∀ (row : List Stp) (came : List ByteArray), (nextW A dep sug row came).1.2.length + wtL B dep (nextW A dep sug row came).1.1 ≤ came.length + wtL B dep row
  | [], came => by simp [nextW]
  | x :: rest, came => by
    have hp : 0 < wtS B dep x := wtN_pos _ _
    rw [nextW]
    split
    · have := nextW_came A dep sug B hB rest came
      rw [wtL]; omega
    · split
      · exact Nat.le_refl _
      · split
        · have := wtL_below B dep sug x (A x.room).2 (hB _)
          simp only [wtL_append, wtL, List.length_append, List.length_singleton]
          omega
        · have := nextW_came A dep sug B hB rest (came ++ [x.room])
          rw [List.length_append, List.length_singleton] at this
          rw [wtL]; omega
def RefNewR (root : ByteArray) (dep : Int) (sug : Bool) (σ : St) (d : D) (τ : St) : Prop :=
  if isB 1 root = true then if 0 ≤ dep ∧ dep ≤ 10 then d = .tup [wD dep sug [⟨root, 0, []⟩] [], eD 0 ByteArray.empty] ∧ τ = σ else d = .tup [wD 0 false [] [], eD 8 (slash ++ sMaxDepth)] ∧ τ = σ else d = .tup [wD 0 false [] [], eD 7 (slash ++ sRoomId)] ∧ τ = σ
theorem wD_zero : LeG (.agg [.v (.int .i64 0), .v (.bool false), .v (.slice none 0 0), .v (.slice none 0 0)]) (wD 0 false [] []) := .agg (.cons (.refl _) (.cons (.refl _) (.cons (LeG.nil _ _) (.cons (LeG.nil _ _) .nil))))
set_option maxHeartbeats 4000000 in
theorem refNewT (root : ByteArray) (dep : Int) (sug : Bool) (σ : St) (hr : root.size ≤ 1000) : Tri Tryd.prog 7 [.s root, .i dep, .b sug] σ (RefNewR root dep sug σ) := by
  have HI := Lib.hid (refRoomT root hr)
  have HN := Lib.hid refNoneT
  simp only [eD] at HN
  cases hb : isB 1 root with
  | false =>
    have hN : RefNewR root dep sug σ = fun d τ => d = .tup [wD 0 false [] [], eD 7 (slash ++ sRoomId)] ∧ τ = σ := by funext d τ; unfold RefNewR; rw [hb, if_neg (by decide)]
    rw [hN]
    clear hN
    rw [hb] at HI
    clear hb
    have HE := Lib.hid (refErrT 7)
    have HIE := Lib.hid (refInE sRoomId 7 (by decide) (by decide))
    simp only [eD] at HE HIE
    refine tri_fn Tryd.func7 rfl Tryd.ntmps7 Tryd.results7 (Nat.le_of_ble_eq_true rfl) ?_
    refine' wlk3 HI.out HE.out HIE.out
    ((try simp [*]); (try simp (discharger := omega) only [wrap_i64, dec_t, dec_f]))
    refine Ret.leG (.tup [wD 0 false [] [], eD 7 (slash ++ sRoomId)]) ?_ (Ret.less σ ?_ ?_)
    · exact (LeG.tup (.cons wD_zero (.cons (.refl _) .nil)))
    · exact leT
    · exact .same ⟨rfl, rfl⟩
  | true =>
    rw [hb] at HI
    by_cases hd : 0 ≤ dep ∧ dep ≤ 10
    · have hN := Lib.hid (show RefNewR root dep sug σ = fun d τ => d = .tup [wD dep sug [⟨root, 0, []⟩] [], eD 0 ByteArray.empty] ∧ τ = σ by funext d τ; unfold RefNewR; rw [hb, if_pos rfl, if_pos hd])
      rw [hN.out]
      clear hN
      obtain ⟨hd1, hd2⟩ := hd
      have hd3 : ¬ dep < 0 := by omega
      have hd4 : ¬ 10 < dep := by omega
      clear hb
      refine tri_fn Tryd.func7 rfl Tryd.ntmps7 Tryd.results7 (Nat.le_of_ble_eq_true rfl) ?_
      refine' wlk2 HI.out HN.out
      ((try simp [*]); (try simp (discharger := omega) only [wrap_i64, dec_t, dec_f]))
      refine Ret.leG (.tup [wD dep sug [⟨root, 0, []⟩] [], eD 0 ByteArray.empty]) ?_ (Ret.less σ ?_ ?_)
      · exact (LeG.tup (.cons (.agg (.cons (.refl _) (.cons (.refl _) (.cons (LeG.sl (.cons (.cons (.refl _) (.cons (.refl _) (.cons (LeG.nil _ _) .nil))) .nil)) (.cons (LeG.nil _ _) .nil))))) (.cons (.refl _) .nil)))
      · exact leT
      · exact .same ⟨rfl, rfl⟩
    · have hN := Lib.hid (show RefNewR root dep sug σ = fun d τ => d = .tup [wD 0 false [] [], eD 8 (slash ++ sMaxDepth)] ∧ τ = σ by funext d τ; unfold RefNewR; rw [hb, if_pos rfl, if_neg hd])
      rw [hN.out]
      clear hN hb
      have HE := Lib.hid (refErrT 8)
      have HIE := Lib.hid (refInE sMaxDepth 8 (by decide) (by decide))
      simp only [eD] at HE HIE
      by_cases hd1 : dep < 0
      · refine tri_fn Tryd.func7 rfl Tryd.ntmps7 Tryd.results7 (Nat.le_of_ble_eq_true rfl) ?_
        refine' wlk3 HI.out HE.out HIE.out
        ((try simp [*]); (try simp (discharger := omega) only [wrap_i64, dec_t, dec_f]))
        refine Ret.leG (.tup [wD 0 false [] [], eD 8 (slash ++ sMaxDepth)]) ?_ (Ret.less σ ?_ ?_)
        · exact (LeG.tup (.cons wD_zero (.cons (.refl _) .nil)))
        · exact leT
        · exact .same ⟨rfl, rfl⟩
      · have hd2 : 10 < dep := by omega
        refine tri_fn Tryd.func7 rfl Tryd.ntmps7 Tryd.results7 (Nat.le_of_ble_eq_true rfl) ?_
        refine' wlk3 HI.out HE.out HIE.out
        ((try simp [*]); (try simp (discharger := omega) only [wrap_i64, dec_t, dec_f]))
        refine Ret.leG (.tup [wD 0 false [] [], eD 8 (slash ++ sMaxDepth)]) ?_ (Ret.less σ ?_ ?_)
        · exact (LeG.tup (.cons wD_zero (.cons (.refl _) .nil)))
        · exact leT
        · exact .same ⟨rfl, rfl⟩
end Go.Proofs.YtcmingndbhldgaaDoor
/-
  Walks (chapter 20): the document's example; the law WalkAlls, walked.
-/
namespace Go.Proofs.YtcmingndbhldgaaDoor
open Go.RowKit
set_option maxRecDepth 100000
set_option linter.unusedVariables false
set_option linter.unusedSimpArgs false
attribute [local irreducible] awp aops aop aput aseq ablock TriX Tri Ret Fresh dq adraw dtail dals dfin Wk

def xS : ByteArray := ⟨#[33, 115, 58, 120]⟩
def xA : ByteArray := ⟨#[33, 97, 58, 120]⟩
def xB : ByteArray := ⟨#[33, 98, 58, 120]⟩
def chd0 (r : ByteArray) : Chd := ⟨r, ByteArray.empty, [], false, 0⟩
def awA (r : ByteArray) : Fnd := if r = xS then (2, [chd0 xA, chd0 xB]) else if r = xA then (2, [chd0 xB]) else (2, [])
theorem chd0_le (r : ByteArray) : LeGL [.v (.string r), .v (.string ByteArray.empty), .v (.slice none 0 0), .v (.bool false), .v (.int .i64 0)] (chd0 r).d := .cons (.refl _) (.cons (.refl _) (.cons (LeG.nil _ _) (.cons (.refl _) (.cons (.refl _) .nil))))
set_option maxHeartbeats 4000000 in
theorem aw1T (room : ByteArray) (via : List ByteArray) (σ : St) : Tri Tryd.prog 16 [.s room, .lst false 1 (txtD via)] σ fun d τ => d = fndD (awA room) ∧ τ = σ := by
  have e1 : (⟨#[33, 115, 58, 120]⟩ : ByteArray) = xS := rfl
  have e2 : (⟨#[33, 97, 58, 120]⟩ : ByteArray) = xA := rfl
  have e3 : (⟨#[33, 98, 58, 120]⟩ : ByteArray) = xB := rfl
  refine tri_fn Tryd.func16 rfl Tryd.ntmps16 Tryd.results16 (Nat.le_of_ble_eq_true rfl) ?_
  by_cases h1 : room = xS
  · refine' wlk0
    ((try simp [*]); (try simp (discharger := omega) only [wrap_i64, dec_t, dec_f]))
    have ha : awA room = (2, [chd0 xA, chd0 xB]) := if_pos h1
    refine Ret.leG (fndD (2, [chd0 xA, chd0 xB])) (LeG.agg (.cons (.refl _) (.cons (LeG.sl (.cons (chd0_le xA) (.cons (chd0_le xB) .nil))) .nil))) (Ret.less σ ?_ ?_)
    · exact leT
    · exact .same ⟨by simp [awA], rfl⟩
  · by_cases h2 : room = xA
    · subst h2
      refine' wlk0
      ((try simp [*]); (try simp (discharger := omega) only [wrap_i64, dec_t, dec_f]))
      refine Ret.leG (fndD (2, [chd0 xB])) (LeG.agg (.cons (.refl _) (.cons (LeG.sl (.cons (chd0_le xB) .nil)) .nil))) (Ret.less σ ?_ ?_)
      · exact leT
      · exact .same ⟨by have : awA xA = (2, [chd0 xB]) := by unfold awA; rw [if_neg (by decide +kernel), if_pos rfl]
                        simp [this], rfl⟩
    · refine' wlk0
      ((try simp [*]); (try simp (discharger := omega) only [wrap_i64, dec_t, dec_f]))
      refine Ret.leG (fndD (2, [])) (LeG.agg (.cons (.refl _) (.cons (LeG.nil _ _) .nil))) (Ret.less σ ?_ ?_)
      · exact leT
      · exact .same ⟨by simp [awA, h1, h2], rfl⟩
theorem aw_ok : AskOk awA 16 [] 2 where
  fn := fnOk_of (by kernel_rfl)
  run := fun room via σ _ => by rw [List.append_nil]; exact aw1T room via σ
  few := fun r => by unfold awA; split; · decide
                     split <;> decide
  via := fun r c hc => by
    have : c = chd0 xA ∨ c = chd0 xB := by
      unfold awA at hc
      split at hc
      · simpa using hc
      · split at hc
        · right; simpa using hc
        · cases hc
    rcases this with rfl | rfl <;> decide
def awL : List Stp := [⟨xS, 0, []⟩, ⟨xA, 1, []⟩, ⟨xB, 2, []⟩]
theorem aw_all : allP awA xS 5 false 2 = awL := by
  unfold allP
  rw [if_pos (by decide +kernel)]
  rfl
set_option maxHeartbeats 4000000 in
theorem awakeT (σ : St) : Tri Tryd.prog 4 [] σ fun d τ => d = .b true ∧ τ = σ := by
  have HA := Lib.hid (walkAllT awA 16 [] 2 aw_ok (by decide) xS 5 false (by decide))
  rw [aw_all] at HA
  have e0 : awL.map Stp.d = [[.s xS, .i 0, .lst false 1 []], [.s xA, .i 1, .lst false 1 []], [.s xB, .i 2, .lst false 1 []]] := rfl
  rw [e0] at HA
  have e1 : (⟨#[33, 115, 58, 120]⟩ : ByteArray) = xS := rfl
  have e2 : (⟨#[33, 97, 58, 120]⟩ : ByteArray) = xA := rfl
  have e3 : (⟨#[33, 98, 58, 120]⟩ : ByteArray) = xB := rfl
  clear e0
  refine tri_fn Tryd.func4 rfl Tryd.ntmps4 Tryd.results4 (Nat.le_of_ble_eq_true rfl) ?_
  refine' wlk1 HA.out
  ((try simp [*]); (try simp (discharger := omega) only [wrap_i64, dec_t, dec_f]))
  exact .same ⟨rfl, rfl⟩
def wayD (root : ByteArray) (dep fr : Int) (sug : Bool) : D := .agg [.s root, .i dep, .i fr, .b sug]
end Go.Proofs.YtcmingndbhldgaaDoor
/-
  Rooms as they are read out of a row (chapter 20).
-/
namespace Go.Proofs.YtcmingndbhldgaaDoor
open Go.RowKit Go.ChangeShapes Go.WideShapes
set_option maxRecDepth 100000
set_option linter.unusedVariables false
set_option linter.unusedSimpArgs false

theorem reach_num : reachBytes = 140737488351232 := rfl
theorem rdI {P : Program} {N : Nat} {t : TypeId} (ht : P.underlying t = some (.int .i64)) : Rd P N t (fun n : Int => [.i n]) (fun n => -9223372036854775808 ≤ n ∧ n ≤ 9223372036854775807) := fun enc w base spare held fuel cs x _ h => by
  obtain ⟨n, rfl, _, hw⟩ := DataW.trod_int ht h
  exact ⟨n, repL1 (.v _), by simp [Value.oneCell'], fun _ => by simp [Lit.wf, IntKind.min, IntKind.max, IntKind.signed, IntKind.bits] at hw; omega⟩
theorem below_sameAt {w w' : World} (h : Below w.heap.size w w') {p : MemPlace} (hp : p.block < w.heap.size) : w.sameAt w' p := by
  cases p with
  | cell b off => exact h.cell (p := ⟨b, off, none⟩) hp
  | map b => simp only [World.sameAt, h.block b hp]
theorem cells_one {P : Program} {w : World} {r : Reach} {base : Nat} {t e : TypeId} {v : Value} (ht : P.underlying t = some (.slice e) ∨ P.underlying t = some .string) (h : Value.okWide P w r base t v) : v.cells.toList = [v] := by
  unfold Value.okWide at h
  cases v with
  | agg cs =>
    rcases ht with ht | ht
    · simp [ht, Cell.okWide, Cell.ok] at h
    · simp [ht, Cell.okWide, Cell.ok] at h
  | _ => rfl
structure Way where
  root : ByteArray
  depth : Int
  fr : Int
  sug : Bool
def Way.d (x : Way) : List D := [.s x.root, .i x.depth, .i x.fr, .b x.sug]
theorem rdC (N : Nat) : Rd Tryd.prog N 64 Chd.d (fun x => x.room.size ≤ reachBytes ∧ x.order.size ≤ reachBytes ∧ (x.via.length * 16 ≤ reachBytes ∧ ∀ a ∈ x.via, a.size ≤ reachBytes) ∧ (-9223372036854775808 ≤ x.ts ∧ x.ts ≤ 9223372036854775807)) := fun enc w base spare held fuel cs x hfu h => by
  obtain ⟨xs, n', rfl, rfl, hlen, hxl, hf⟩ := DataW.trod_struct Tryd.underlying64 h
  have hlen' : cs.length = 5 := hlen.trans (by kernel_rfl)
  have hx3 : xs.length = 5 := hxl
  have g0 := hf 0 _ rfl
  have g1 := hf 1 _ rfl
  have g2 := hf 2 _ rfl
  have g3 := hf 3 _ rfl
  have g4 := hf 4 _ rfl
  obtain ⟨y0, y1, y2, y3, y4, rfl⟩ : ∃ y0 y1 y2 y3 y4, xs = [y0, y1, y2, y3, y4] := by
    rcases xs with _ | ⟨y0, _ | ⟨y1, _ | ⟨y2, _ | ⟨y3, _ | ⟨y4, _ | ⟨y5, xs⟩⟩⟩⟩⟩⟩ <;> simp at hx3
    exact ⟨y0, y1, y2, y3, y4, rfl⟩
  obtain ⟨x0, x1, x2, x3, x4, rfl⟩ : ∃ x0 x1 x2 x3 x4, cs = [x0, x1, x2, x3, x4] := by
    rcases cs with _ | ⟨x0, _ | ⟨x1, _ | ⟨x2, _ | ⟨x3, _ | ⟨x4, _ | ⟨x5, cs⟩⟩⟩⟩⟩⟩ <;> simp at hlen'
    exact ⟨x0, x1, x2, x3, x4, rfl⟩
  change DataW.trod enc Tryd.prog w base spare held n' 9 (([x0, x1, x2, x3, x4].drop 0).take (Program.cellsOf Tryd.prog 9)) = some y0 at g0
  change DataW.trod enc Tryd.prog w base spare held n' 9 (([x0, x1, x2, x3, x4].drop 1).take (Program.cellsOf Tryd.prog 9)) = some y1 at g1
  change DataW.trod enc Tryd.prog w base spare held n' 33 (([x0, x1, x2, x3, x4].drop 2).take (Program.cellsOf Tryd.prog 33)) = some y2 at g2
  change DataW.trod enc Tryd.prog w base spare held n' 4 (([x0, x1, x2, x3, x4].drop 3).take (Program.cellsOf Tryd.prog 4)) = some y3 at g3
  change DataW.trod enc Tryd.prog w base spare held n' 3 (([x0, x1, x2, x3, x4].drop 4).take (Program.cellsOf Tryd.prog 3)) = some y4 at g4
  have e0 : Program.cellsOf Tryd.prog 9 = 1 := by kernel_rfl
  have e1 : Program.cellsOf Tryd.prog 33 = 1 := by kernel_rfl
  have e2 : Program.cellsOf Tryd.prog 4 = 1 := by kernel_rfl
  have e3 : Program.cellsOf Tryd.prog 3 = 1 := by kernel_rfl
  simp only [e0, e1, e2, e3, List.drop_succ_cons, List.drop_zero, List.take_succ_cons, List.take_zero] at g0 g1 g2 g3 g4
  obtain ⟨a0, r0, o0, f0⟩ := Rd.str (N := n') Tryd.underlying9 enc w base spare held n' _ y0 (by omega) g0
  obtain ⟨a1, r1, o1, f1⟩ := Rd.str (N := n') Tryd.underlying9 enc w base spare held n' _ y1 (by omega) g1
  obtain ⟨a2, r2, o2, f2⟩ := Rd.slice (by_ := 16) (sz := 1) Tryd.underlying33 (by kernel_rfl) (by kernel_rfl) (by decide) (fun _ => rfl) (Rd.str (N := n') Tryd.underlying9) enc w base spare held n' _ y2 (by omega) g2
  obtain ⟨a3, r3, o3, f3⟩ := Rd.bool (N := n') Tryd.underlying4 enc w base spare held n' _ y3 (by omega) g3
  obtain ⟨a4, r4, o4, f4⟩ := rdI (N := n') Tryd.underlying3 enc w base spare held n' _ y4 (by omega) g4
  refine ⟨⟨a0, a1, a2, a3, a4⟩, r0.append (r1.append (r2.append (r3.append (r4)))), ?_, fun hr => ?_⟩
  · intro v hv
    simp only [List.mem_cons, List.not_mem_nil, or_false] at hv
    rcases hv with rfl | rfl | rfl | rfl | rfl
    · exact o0 _ (by simp)
    · exact o1 _ (by simp)
    · exact o2 _ (by simp)
    · exact o3 _ (by simp)
    · exact o4 _ (by simp)
  · exact ⟨f0 (reached_field Tryd.underlying64 hr (i := 0) rfl rfl), f1 (reached_field Tryd.underlying64 hr (i := 1) rfl rfl), f2 (reached_field Tryd.underlying64 hr (i := 2) rfl rfl), f4 (reached_field Tryd.underlying64 hr (i := 4) rfl rfl)⟩
theorem rdF (N : Nat) : Rd Tryd.prog N 63 RF.d (fun x => x.room.size ≤ reachBytes ∧ (-9223372036854775808 ≤ x.kind ∧ x.kind ≤ 9223372036854775807) ∧ (x.ch.length * 72 ≤ reachBytes ∧ ∀ a ∈ x.ch, (a.room.size ≤ reachBytes ∧ a.order.size ≤ reachBytes ∧ (a.via.length * 16 ≤ reachBytes ∧ ∀ b ∈ a.via, b.size ≤ reachBytes) ∧ (-9223372036854775808 ≤ a.ts ∧ a.ts ≤ 9223372036854775807)))) := fun enc w base spare held fuel cs x hfu h => by
  obtain ⟨xs, n', rfl, rfl, hlen, hxl, hf⟩ := DataW.trod_struct Tryd.underlying63 h
  have hlen' : cs.length = 3 := hlen.trans (by kernel_rfl)
  have hx3 : xs.length = 3 := hxl
  have g0 := hf 0 _ rfl
  have g1 := hf 1 _ rfl
  have g2 := hf 2 _ rfl
  obtain ⟨y0, y1, y2, rfl⟩ : ∃ y0 y1 y2, xs = [y0, y1, y2] := by
    rcases xs with _ | ⟨y0, _ | ⟨y1, _ | ⟨y2, _ | ⟨y3, xs⟩⟩⟩⟩ <;> simp at hx3
    exact ⟨y0, y1, y2, rfl⟩
  obtain ⟨x0, x1, x2, rfl⟩ : ∃ x0 x1 x2, cs = [x0, x1, x2] := by
    rcases cs with _ | ⟨x0, _ | ⟨x1, _ | ⟨x2, _ | ⟨x3, cs⟩⟩⟩⟩ <;> simp at hlen'
    exact ⟨x0, x1, x2, rfl⟩
  change DataW.trod enc Tryd.prog w base spare held n' 9 (([x0, x1, x2].drop 0).take (Program.cellsOf Tryd.prog 9)) = some y0 at g0
  change DataW.trod enc Tryd.prog w base spare held n' 3 (([x0, x1, x2].drop 1).take (Program.cellsOf Tryd.prog 3)) = some y1 at g1
  change DataW.trod enc Tryd.prog w base spare held n' 61 (([x0, x1, x2].drop 2).take (Program.cellsOf Tryd.prog 61)) = some y2 at g2
  have e0 : Program.cellsOf Tryd.prog 9 = 1 := by kernel_rfl
  have e1 : Program.cellsOf Tryd.prog 3 = 1 := by kernel_rfl
  have e2 : Program.cellsOf Tryd.prog 61 = 1 := by kernel_rfl
  simp only [e0, e1, e2, List.drop_succ_cons, List.drop_zero, List.take_succ_cons, List.take_zero] at g0 g1 g2
  obtain ⟨a0, r0, o0, f0⟩ := Rd.str (N := n') Tryd.underlying9 enc w base spare held n' _ y0 (by omega) g0
  obtain ⟨a1, r1, o1, f1⟩ := rdI (N := n') Tryd.underlying3 enc w base spare held n' _ y1 (by omega) g1
  obtain ⟨a2, r2, o2, f2⟩ := Rd.slice (by_ := 72) (sz := 5) Tryd.underlying61 (by kernel_rfl) (by kernel_rfl) (by decide) (fun _ => rfl) (rdC n') enc w base spare held n' _ y2 (by omega) g2
  refine ⟨⟨a0, a1, a2⟩, r0.append (r1.append (r2)), ?_, fun hr => ?_⟩
  · intro v hv
    simp only [List.mem_cons, List.not_mem_nil, or_false] at hv
    rcases hv with rfl | rfl | rfl
    · exact o0 _ (by simp)
    · exact o1 _ (by simp)
    · exact o2 _ (by simp)
  · exact ⟨f0 (reached_field Tryd.underlying63 hr (i := 0) rfl rfl), f1 (reached_field Tryd.underlying63 hr (i := 1) rfl rfl), f2 (reached_field Tryd.underlying63 hr (i := 2) rfl rfl)⟩
theorem rdWay (N : Nat) : Rd Tryd.prog N 24 Way.d (fun x => x.root.size ≤ reachBytes ∧ (-9223372036854775808 ≤ x.depth ∧ x.depth ≤ 9223372036854775807) ∧ (-9223372036854775808 ≤ x.fr ∧ x.fr ≤ 9223372036854775807)) := fun enc w base spare held fuel cs x hfu h => by
  obtain ⟨xs, n', rfl, rfl, hlen, hxl, hf⟩ := DataW.trod_struct Tryd.underlying24 h
  have hlen' : cs.length = 4 := hlen.trans (by kernel_rfl)
  have hx3 : xs.length = 4 := hxl
  have g0 := hf 0 _ rfl
  have g1 := hf 1 _ rfl
  have g2 := hf 2 _ rfl
  have g3 := hf 3 _ rfl
  obtain ⟨y0, y1, y2, y3, rfl⟩ : ∃ y0 y1 y2 y3, xs = [y0, y1, y2, y3] := by
    rcases xs with _ | ⟨y0, _ | ⟨y1, _ | ⟨y2, _ | ⟨y3, _ | ⟨y4, xs⟩⟩⟩⟩⟩ <;> simp at hx3
    exact ⟨y0, y1, y2, y3, rfl⟩
  obtain ⟨x0, x1, x2, x3, rfl⟩ : ∃ x0 x1 x2 x3, cs = [x0, x1, x2, x3] := by
    rcases cs with _ | ⟨x0, _ | ⟨x1, _ | ⟨x2, _ | ⟨x3, _ | ⟨x4, cs⟩⟩⟩⟩⟩ <;> simp at hlen'
    exact ⟨x0, x1, x2, x3, rfl⟩
  change DataW.trod enc Tryd.prog w base spare held n' 9 (([x0, x1, x2, x3].drop 0).take (Program.cellsOf Tryd.prog 9)) = some y0 at g0
  change DataW.trod enc Tryd.prog w base spare held n' 3 (([x0, x1, x2, x3].drop 1).take (Program.cellsOf Tryd.prog 3)) = some y1 at g1
  change DataW.trod enc Tryd.prog w base spare held n' 3 (([x0, x1, x2, x3].drop 2).take (Program.cellsOf Tryd.prog 3)) = some y2 at g2
  change DataW.trod enc Tryd.prog w base spare held n' 4 (([x0, x1, x2, x3].drop 3).take (Program.cellsOf Tryd.prog 4)) = some y3 at g3
  have e0 : Program.cellsOf Tryd.prog 9 = 1 := by kernel_rfl
  have e1 : Program.cellsOf Tryd.prog 3 = 1 := by kernel_rfl
  have e2 : Program.cellsOf Tryd.prog 4 = 1 := by kernel_rfl
  simp only [e0, e1, e2, List.drop_succ_cons, List.drop_zero, List.take_succ_cons, List.take_zero] at g0 g1 g2 g3
  obtain ⟨a0, r0, o0, f0⟩ := Rd.str (N := n') Tryd.underlying9 enc w base spare held n' _ y0 (by omega) g0
  obtain ⟨a1, r1, o1, f1⟩ := rdI (N := n') Tryd.underlying3 enc w base spare held n' _ y1 (by omega) g1
  obtain ⟨a2, r2, o2, f2⟩ := rdI (N := n') Tryd.underlying3 enc w base spare held n' _ y2 (by omega) g2
  obtain ⟨a3, r3, o3, f3⟩ := Rd.bool (N := n') Tryd.underlying4 enc w base spare held n' _ y3 (by omega) g3
  refine ⟨⟨a0, a1, a2, a3⟩, r0.append (r1.append (r2.append (r3))), ?_, fun hr => ?_⟩
  · intro v hv
    simp only [List.mem_cons, List.not_mem_nil, or_false] at hv
    rcases hv with rfl | rfl | rfl | rfl
    · exact o0 _ (by simp)
    · exact o1 _ (by simp)
    · exact o2 _ (by simp)
    · exact o3 _ (by simp)
  · exact ⟨f0 (reached_field Tryd.underlying24 hr (i := 0) rfl rfl), f1 (reached_field Tryd.underlying24 hr (i := 1) rfl rfl), f2 (reached_field Tryd.underlying24 hr (i := 2) rfl rfl)⟩
theorem argFs {H : Type} {enc : TypeId × Value → H} {W : World} {base : Nat} {v0 : Value} {d0 : DataW H} {p0 : List MemPlace}
    (hval : Value.okWide Tryd.prog W .any base 22 v0) (h0 : DataW.Trod enc Tryd.prog W 0 (fun _ => true) true 22 v0 d0 p0) (hr : Reached Tryd.prog 22 d0) :
    ∃ l : List RF, (l.length * 48 ≤ reachBytes ∧ ∀ x ∈ l, (x.room.size ≤ reachBytes ∧ (-9223372036854775808 ≤ x.kind ∧ x.kind ≤ 9223372036854775807) ∧ (x.ch.length * 72 ≤ reachBytes ∧ ∀ a ∈ x.ch, (a.room.size ≤ reachBytes ∧ a.order.size ≤ reachBytes ∧ (a.via.length * 16 ≤ reachBytes ∧ ∀ b ∈ a.via, b.size ≤ reachBytes) ∧ (-9223372036854775808 ≤ a.ts ∧ a.ts ≤ 9223372036854775807))))) ∧ Rep (Gh.of W) v0 (.lst false 3 (l.map RF.d)) := by
  obtain ⟨n, hn⟩ := h0
  obtain ⟨a, h1, h2, h3⟩ := Rd.slice (by_ := 48) (sz := 3) Tryd.underlying22 (by kernel_rfl) (by kernel_rfl) (by decide) (fun _ => rfl) (rdF n) enc W 0 _ true n _ _ (by omega) hn
  rw [cells_one (.inl Tryd.underlying22) hval] at h1
  exact ⟨a, h3 hr, h1.rep 0 _ _ rfl rfl⟩
theorem argWay {H : Type} {enc : TypeId × Value → H} {W : World} {base : Nat} {v0 : Value} {d0 : DataW H} {p0 : List MemPlace}
    (hval : Value.okWide Tryd.prog W .any base 24 v0) (h0 : DataW.Trod enc Tryd.prog W 0 (fun _ => true) true 24 v0 d0 p0) (hr : Reached Tryd.prog 24 d0) :
    ∃ x : Way, (x.root.size ≤ reachBytes ∧ (-9223372036854775808 ≤ x.depth ∧ x.depth ≤ 9223372036854775807) ∧ (-9223372036854775808 ≤ x.fr ∧ x.fr ≤ 9223372036854775807)) ∧ Rep (Gh.of W) v0 (.agg (Way.d x)) := by
  obtain ⟨n, hn⟩ := h0
  obtain ⟨a, h1, h2, h3⟩ := rdWay n enc W 0 _ true n _ _ (Nat.le_refl _) hn
  unfold Value.okWide at hval
  simp only [Tryd.underlying24] at hval
  obtain ⟨cs, rfl, _⟩ := hval
  have h1' : RepL (Gh.of W) cs.toList (Way.d a) := h1
  exact ⟨a, h3 hr, .agg _ _ h1'.len h2 h1'.rep⟩
theorem rf_ok {l : List RF} (h : l.length * 48 ≤ reachBytes ∧ ∀ x ∈ l, (x.room.size ≤ reachBytes ∧ (-9223372036854775808 ≤ x.kind ∧ x.kind ≤ 9223372036854775807) ∧ (x.ch.length * 72 ≤ reachBytes ∧ ∀ a ∈ x.ch, (a.room.size ≤ reachBytes ∧ a.order.size ≤ reachBytes ∧ (a.via.length * 16 ≤ reachBytes ∧ ∀ b ∈ a.via, b.size ≤ reachBytes) ∧ (-9223372036854775808 ≤ a.ts ∧ a.ts ≤ 9223372036854775807))))) : RFok l := by
  obtain ⟨h1, h2⟩ := h
  rw [reach_num] at h1
  refine ⟨by omega, fun f hf => ?_⟩
  obtain ⟨k1, _, k2, k3⟩ := h2 f hf
  rw [reach_num] at k1 k2
  refine ⟨by omega, k1, fun c hc => ?_⟩
  obtain ⟨j1, _, ⟨j2, _⟩, _⟩ := k3 c hc
  rw [reach_num] at j1 j2
  exact ⟨j1, by omega⟩
end Go.Proofs.YtcmingndbhldgaaDoor
/-
  Walks (chapter 20): is a walk over?
-/
namespace Go.Proofs.YtcmingndbhldgaaDoor
open Go.RowKit
set_option maxRecDepth 100000
set_option linter.unusedVariables false
set_option linter.unusedSimpArgs false
attribute [local irreducible] awp aops aop aput aseq ablock TriX Tri Ret Fresh dq adraw dtail dals dfin Wk

/-- Is all of a row where it came to? -/
def overW (row : List Stp) (came : List ByteArray) : Bool := row.all fun s => inS came s.room
def idxW (came : List ByteArray) : Nat → List Stp → Int
  | _, [] => -1
  | i, s :: l => if inS came s.room then idxW came (i + 1) l else i
theorem idxW_ge (came : List ByteArray) : ∀ (l : List Stp) (i : Nat), (decide (0 ≤ idxW came i l)) = !overW l came
  | [], i => by simp [idxW, overW]
  | s :: l, i => by
    rw [idxW, overW, List.all_cons]
    cases h : inS came s.room with
    | true => rw [if_pos rfl, idxW_ge came l (i + 1)]; simp [overW]
    | false => simp
theorem overW_rev (row : List Stp) (came : List ByteArray) : overW row.reverse came = overW row came := by simp [overW]
set_option maxHeartbeats 4000000 in
theorem over1T (σ : St) (b1 bw bm : Nat) (dep : Int) (sug : Bool) (stk : D) (came : List ByteArray) (s : Stp) (hown1 : σ.own b1 = some (.box 27 [.at bw 0])) (hown2 : σ.own bw = some (.box 73 [.i dep, .b sug, stk, .v (.map (some bm))])) (hown3 : σ.own bm = some (.mp (cameE came))) :
    Tri Tryd.prog 32 [.agg s.d, .at b1 0] σ fun d τ => d = .b (!inS came s.room) ∧ τ = σ := by
  have hsd : s.d = [.s s.room, .i s.depth, .lst false 1 (txtD s.via)] := rfl
  rw [hsd]
  have hmk := cameE_keys came
  have hf := cameE_find came s.room
  obtain ⟨es, hes⟩ : ∃ es, es = cameE came := ⟨_, rfl⟩
  rw [← hes] at hmk hf hown3
  replace hes := Lib.hid hes
  cases hc : inS came s.room with
  | true =>
    rw [hc, if_pos rfl] at hf
    refine tri_fn Tryd.func32 rfl Tryd.ntmps32 Tryd.results32 (Nat.le_of_ble_eq_true rfl) ?_
    refine' wlk0
    (refine awp_draw (fun KS EG hK hP => ?_); refine draw_rule rfl [(0, false), (1, true), (2, true), (3, false), (4, true), (5, false), (6, false), (7, true), (8, true)] [] [] (by kernel_rfl) ?_; refine' dqs0)
    refine' wlk0
    ((try simp [*]); (try simp (discharger := omega) only [wrap_i64, dec_t, dec_f]))
    exact .mk _ σ (.refl _) leT ⟨rfl, rfl⟩
  | false =>
    rw [hc, if_neg (by decide)] at hf
    refine tri_fn Tryd.func32 rfl Tryd.ntmps32 Tryd.results32 (Nat.le_of_ble_eq_true rfl) ?_
    refine' wlk0
    (refine awp_draw (fun KS EG hK hP => ?_); refine draw_rule rfl [(0, false), (1, true), (2, true), (3, false), (4, true), (5, false), (6, false), (7, true), (8, true)] [] [] (by kernel_rfl) ?_; refine' dqs0)
    refine' wlk0
    ((try simp [*]); (try simp (discharger := omega) only [wrap_i64, dec_t, dec_f]))
    exact .mk _ σ (.refl _) leT ⟨rfl, rfl⟩
set_option maxHeartbeats 4000000 in
theorem idxT (σ : St) (b1 bw bs bm cap : Nat) (dep : Int) (sug : Bool) (ds : List (List D)) (came : List ByteArray) (R : List Stp) (hlen : R.length ≤ 100000000000) (hown1 : σ.own b1 = some (.box 27 [.at bw 0])) (hown2 : σ.own bw = some (.box 73 [.i dep, .b sug, .arr bs 3 cap 0 R.length, .v (.map (some bm))])) (hown3 : σ.own bm = some (.mp (cameE came))) (hown4 : σ.own bs = some (.arr 46 3 cap ds)) (hl : ds.take R.length = R.map Stp.d) :
    Tri Tryd.prog 44 [.arr bs 3 cap 0 R.length, .fn (.func 32) [] [.at b1 0]] σ fun d τ => d = .i (idxW came 0 R) ∧ τ = σ := by
  have O1 := Lib.hid (fun s => over1T σ b1 bw bm dep sug _ came s hown1 hown2 hown3)
  have HL := Lib.hid hl
  have hle : R.length ≤ ds.length := by
    have := congrArg List.length hl
    rw [List.length_take, List.length_map] at this
    omega
  clear hl hown1 hown2 hown3
  refine tri_fn Tryd.func44 rfl Tryd.ntmps44 Tryd.results44 (Nat.le_of_ble_eq_true rfl) ?_
  refine' wlk0
  refine awp_loopM [4, 5, 8, 9, 10, 11, 12, 13, 14, 15, 16, 17, 18] (fun X τ => ∃ i : Nat, i ≤ R.length ∧ X 8 = .i i ∧ idxW came 0 R = idxW came i (R.drop i) ∧ τ = σ) (fun X _ => R.length - (X 8).int.toNat) ?_ ?_
  · exact .same ⟨mix_self _ _, 0, by omega, by simp [*], by simp, rfl⟩
  · rintro X τ ⟨i, hi, h8, hix, rfl⟩ _ hL
    have HIX := Lib.hid hix
    clear hix
    by_cases hlt : i < R.length
    · have hd : R.drop i = R[i] :: R.drop (i + 1) := List.drop_eq_getElem_cons hlt
      have hds : ds[i]? = some R[i].d := by
        have : (ds.take R.length)[i]? = some R[i].d := by rw [HL.out]; simp [hlt]
        rw [List.getElem?_take, if_pos hlt] at this
        exact this
      have hsd : R[i].d = [.s R[i].room, .i R[i].depth, .lst false 1 (txtD R[i].via)] := rfl
      have OI := Lib.hid (O1.out R[i])
      rw [hsd] at OI hds
      have hil : i < ds.length := by omega
      have hds2 : ds[i]'hil = [.s R[i].room, .i R[i].depth, .lst false 1 (txtD R[i].via)] := by
        rw [List.getElem?_eq_getElem hil] at hds
        exact Option.some.inj hds
      have HX := Lib.hid (show idxW came 0 R = if inS came R[i].room then idxW came (i + 1) (R.drop (i + 1)) else i by rw [HIX.out, hd, idxW])
      clear hd
      cases hc : inS came R[i].room with
      | true =>
        rw [hc] at OI HX
        rw [if_pos rfl] at HX
        repeat (first | ((first | refine aops_cons (fun K9 hO => ?_) | (refine aops_guardT rfl ?_ (fun K9 hO => ?_); (focus (simp [*]; done)))); simp [*]; (try simp (discharger := omega) only [wrap_i64, dec_t, dec_f]); (first | ((try (first | refine .inl ⟨by omega, by omega, ?_⟩ | refine ⟨by omega, by omega, ?_⟩ | refine ⟨by omega, ?_⟩ | refine .inl ?_)); (first | (intro b; intros; (try have hneA := ne_own (b := b) hown1 (by assumption)); (try have hneB := ne_own (b := b) hown2 (by assumption)); (try have hneC := ne_own (b := b) hown3 (by assumption)); refine hO.out _ _ ?_) | refine hO.out _ _ ?_)) | ((first | refine Tri.call (OI.out) ?_); (first | rintro _ _ ⟨rfl, h9⟩; replace h9 := h9.symm; subst h9 | rintro _ _ ⟨_, rfl, rfl⟩ | rintro _ _ ⟨_, _, rfl, rfl⟩ | rintro _ _ ⟨_, _, _, rfl, rfl⟩ | rintro _ τ9 ⟨rfl, h9⟩ | rintro _ τ9 ⟨x9, rfl, h9⟩ | rintro _ τ9 ⟨x9, y9, rfl, h9⟩); refine hO.out _ _ ?_)); clear hO; (try clear K9); (first | refine aput_some (by decide) ?_ | refine aput_none ?_)) | refine aops_nil ?_ | refine aseq_normal ?_ | refine aseq_ret ?_ | refine aseq_exit ?_ | refine ablock_normal ?_ | refine ablock_ret ?_ | refine ablock_same ?_ | refine ablock_other (by decide) ?_ | ((repeat ((fail_if_success (refine hK.out _ _ ?_)); clear hK; (try clear hP EG); (try clear KS))); refine hK.out _ _ ?_; clear hK; (try clear hP EG); try clear KS) | refine awp_seq (fun KS hK => ?_) | refine awp_region (fun KS EG hK hP => ?_) | refine awp_block ?_ | refine awp_skip ?_ | refine awp_ret ?_ | refine awp_exit ?_ | (refine awp_condT ?_ ?_; (focus (simp [*]; done))) | (refine awp_condF ?_ ?_; (focus (simp [*]; done))) | ((first | (refine aops_guardF rfl ?_ ?_; (focus (simp [*]; done))) | (refine aops_guardU rfl ?_ ?_; (focus (simp [*]; done)))); (first | refine aput_some (by decide) ?_ | refine aput_none ?_)))
        refine hL.out _ _ (.same ⟨mixT, ⟨i + 1, by omega, ?_, HX.out, rfl⟩, ?_⟩)
        · simp [*]
        · simp [*, D.int]; omega
      | false =>
        rw [hc] at OI HX
        rw [if_neg (by decide)] at HX
        repeat (first | ((first | refine aops_cons (fun K9 hO => ?_) | (refine aops_guardT rfl ?_ (fun K9 hO => ?_); (focus (simp [*]; done)))); simp [*]; (try simp (discharger := omega) only [wrap_i64, dec_t, dec_f]); (first | ((try (first | refine .inl ⟨by omega, by omega, ?_⟩ | refine ⟨by omega, by omega, ?_⟩ | refine ⟨by omega, ?_⟩ | refine .inl ?_)); (first | (intro b; intros; (try have hneA := ne_own (b := b) hown1 (by assumption)); (try have hneB := ne_own (b := b) hown2 (by assumption)); (try have hneC := ne_own (b := b) hown3 (by assumption)); refine hO.out _ _ ?_) | refine hO.out _ _ ?_)) | ((first | refine Tri.call (OI.out) ?_); (first | rintro _ _ ⟨rfl, h9⟩; replace h9 := h9.symm; subst h9 | rintro _ _ ⟨_, rfl, rfl⟩ | rintro _ _ ⟨_, _, rfl, rfl⟩ | rintro _ _ ⟨_, _, _, rfl, rfl⟩ | rintro _ τ9 ⟨rfl, h9⟩ | rintro _ τ9 ⟨x9, rfl, h9⟩ | rintro _ τ9 ⟨x9, y9, rfl, h9⟩); refine hO.out _ _ ?_)); clear hO; (try clear K9); (first | refine aput_some (by decide) ?_ | refine aput_none ?_)) | refine aops_nil ?_ | refine aseq_normal ?_ | refine aseq_ret ?_ | refine aseq_exit ?_ | refine ablock_normal ?_ | refine ablock_ret ?_ | refine ablock_same ?_ | refine ablock_other (by decide) ?_ | ((repeat ((fail_if_success (refine hK.out _ _ ?_)); clear hK; (try clear hP EG); (try clear KS))); refine hK.out _ _ ?_; clear hK; (try clear hP EG); try clear KS) | refine awp_seq (fun KS hK => ?_) | refine awp_region (fun KS EG hK hP => ?_) | refine awp_block ?_ | refine awp_skip ?_ | refine awp_ret ?_ | refine awp_exit ?_ | (refine awp_condT ?_ ?_; (focus (simp [*]; done))) | (refine awp_condF ?_ ?_; (focus (simp [*]; done))) | ((first | (refine aops_guardF rfl ?_ ?_; (focus (simp [*]; done))) | (refine aops_guardU rfl ?_ ?_; (focus (simp [*]; done)))); (first | refine aput_some (by decide) ?_ | refine aput_none ?_)))
        ((try simp [*]); (try simp (discharger := omega) only [wrap_i64, dec_t, dec_f]))
        exact .mk _ _ (.refl _) (St.le_refl _) ⟨by rw [HX.out], rfl⟩
    · have he : idxW came 0 R = -1 := by
        rw [HIX.out, List.drop_eq_nil_of_le (by omega), idxW]
      refine' wlk0
      ((try simp [*]); (try simp (discharger := omega) only [wrap_i64, dec_t, dec_f]))
      exact .mk _ _ (.refl _) (St.le_refl _) ⟨by first | rfl | rw [he], rfl⟩
set_option maxHeartbeats 4000000 in
theorem containsT (σ : St) (b1 bw bs bm cap : Nat) (dep : Int) (sug : Bool) (ds : List (List D)) (came : List ByteArray) (R : List Stp) (hlen : R.length ≤ 100000000000) (hown1 : σ.own b1 = some (.box 27 [.at bw 0])) (hown2 : σ.own bw = some (.box 73 [.i dep, .b sug, .arr bs 3 cap 0 R.length, .v (.map (some bm))])) (hown3 : σ.own bm = some (.mp (cameE came))) (hown4 : σ.own bs = some (.arr 46 3 cap ds)) (hl : ds.take R.length = R.map Stp.d) :
    Tri Tryd.prog 31 [.arr bs 3 cap 0 R.length, .fn (.func 32) [] [.at b1 0]] σ fun d τ => d = .b (!overW R came) ∧ τ = σ := by
  have IX := Lib.hid (idxT σ b1 bw bs bm cap dep sug ds came R hlen hown1 hown2 hown3 hown4 hl)
  have hg := idxW_ge came R 0
  clear hown1 hown2 hown3 hown4 hl
  obtain ⟨k, hk⟩ : ∃ k, k = idxW came 0 R := ⟨_, rfl⟩
  rw [← hk] at IX hg
  clear hk
  refine tri_fn Tryd.func31 rfl Tryd.ntmps31 Tryd.results31 (Nat.le_of_ble_eq_true rfl) ?_
  repeat (first | ((first | refine aops_cons (fun K9 hO => ?_) | (refine aops_guardT rfl ?_ (fun K9 hO => ?_); (focus (simp [*]; done)))); simp [*]; (try simp (discharger := omega) only [wrap_i64, dec_t, dec_f]); (first | ((try (first | refine .inl ⟨by omega, by omega, ?_⟩ | refine ⟨by omega, by omega, ?_⟩ | refine ⟨by omega, ?_⟩ | refine .inl ?_)); (first | (intro b; intros; (try have hneA := ne_own (b := b) hown1 (by assumption)); (try have hneB := ne_own (b := b) hown2 (by assumption)); (try have hneC := ne_own (b := b) hown3 (by assumption)); refine hO.out _ _ ?_) | refine hO.out _ _ ?_)) | ((first | refine Tri.call (IX.out) ?_); (first | rintro _ _ ⟨rfl, h9⟩; replace h9 := h9.symm; subst h9 | rintro _ _ ⟨_, rfl, rfl⟩ | rintro _ _ ⟨_, _, rfl, rfl⟩ | rintro _ _ ⟨_, _, _, rfl, rfl⟩ | rintro _ τ9 ⟨rfl, h9⟩ | rintro _ τ9 ⟨x9, rfl, h9⟩ | rintro _ τ9 ⟨x9, y9, rfl, h9⟩); refine hO.out _ _ ?_)); clear hO; (try clear K9); (first | refine aput_some (by decide) ?_ | refine aput_none ?_)) | refine aops_nil ?_ | refine aseq_normal ?_ | refine aseq_ret ?_ | refine aseq_exit ?_ | refine ablock_normal ?_ | refine ablock_ret ?_ | refine ablock_same ?_ | refine ablock_other (by decide) ?_ | ((repeat ((fail_if_success (refine hK.out _ _ ?_)); clear hK; (try clear hP EG); (try clear KS))); refine hK.out _ _ ?_; clear hK; (try clear hP EG); try clear KS) | refine awp_seq (fun KS hK => ?_) | refine awp_region (fun KS EG hK hP => ?_) | refine awp_block ?_ | refine awp_skip ?_ | refine awp_ret ?_ | refine awp_exit ?_ | (refine awp_condT ?_ ?_; (focus (simp [*]; done))) | (refine awp_condF ?_ ?_; (focus (simp [*]; done))) | ((first | (refine aops_guardF rfl ?_ ?_; (focus (simp [*]; done))) | (refine aops_guardU rfl ?_ ?_; (focus (simp [*]; done)))); (first | refine aput_some (by decide) ?_ | refine aput_none ?_)))
  ((try simp [*]); (try simp (discharger := omega) only [wrap_i64, dec_t, dec_f]))
  exact .mk _ _ (.refl _) (St.le_refl _) ⟨by first | rw [← hg] | simp [← hg], rfl⟩
set_option maxHeartbeats 4000000 in
theorem overT (τ : St) (bw bs bm cap : Nat) (ds : List (List D)) (dep : Int) (sug : Bool) (row : List Stp) (came : List ByteArray) (hown1 : τ.own bw = some (.box 73 [.i dep, .b sug, .arr bs 3 cap 0 row.length, .v (.map (some bm))])) (hown2 : τ.own bs = some (.arr 46 3 cap ds)) (hown3 : τ.own bm = some (.mp (cameE came))) (hl : ds.take row.length = row.reverse.map Stp.d) (hlen : row.length ≤ 100000000000) :
    Tri Tryd.prog 14 [.at bw 0] τ fun d τ' => d = .b (overW row came) ∧ τ' = τ := by
  have hlr : row.reverse.length = row.length := List.length_reverse
  have CT := Lib.hid (fun (x : St) (b1 : Nat) (k1 : x.own b1 = some (.box 27 [.at bw 0])) (k2 : x.own bw = some (.box 73 [.i dep, .b sug, .arr bs 3 cap 0 row.length, .v (.map (some bm))])) (k3 : x.own bm = some (.mp (cameE came))) (k4 : x.own bs = some (.arr 46 3 cap ds)) => containsT x b1 bw bs bm cap dep sug ds came row.reverse (by omega) k1 (by rw [hlr]; exact k2) k3 k4 (by rw [hlr]; exact hl))
  rw [hlr, overW_rev] at CT
  clear hl hlr
  cases hov : overW row came
  all_goals
    rw [hov] at CT
    refine tri_fn Tryd.func14 rfl Tryd.ntmps14 Tryd.results14 (Nat.le_of_ble_eq_true rfl) ?_
    refine' wlk0
    repeat (first | ((first | refine aops_cons (fun K9 hO => ?_) | (refine aops_guardT rfl ?_ (fun K9 hO => ?_); (focus (simp [*]; done)))); simp [*]; (try simp (discharger := omega) only [wrap_i64, dec_t, dec_f]); (first | ((try (first | refine .inl ⟨by omega, by omega, ?_⟩ | refine ⟨by omega, by omega, ?_⟩ | refine ⟨by omega, ?_⟩ | refine .inl ?_)); (first | (intro b; intros; (try have hneA := ne_own (b := b) hown1 (by assumption)); (try have hneB := ne_own (b := b) hown2 (by assumption)); (try have hneC := ne_own (b := b) hown3 (by assumption)); refine hO.out _ _ ?_) | refine hO.out _ _ ?_)) | ((first | refine Tri.call (CT.out _ _ (by simp [own_set, *]) (by simp [own_set, *]) (by simp [own_set, *]) (by simp [own_set, *])) ?_); (first | rintro _ _ ⟨rfl, h9⟩; replace h9 := h9.symm; subst h9 | rintro _ _ ⟨_, rfl, rfl⟩ | rintro _ _ ⟨_, _, rfl, rfl⟩ | rintro _ _ ⟨_, _, _, rfl, rfl⟩ | rintro _ τ9 ⟨rfl, h9⟩ | rintro _ τ9 ⟨x9, rfl, h9⟩ | rintro _ τ9 ⟨x9, y9, rfl, h9⟩); refine hO.out _ _ ?_)); clear hO; (try clear K9); (first | refine aput_some (by decide) ?_ | refine aput_none ?_)) | refine aops_nil ?_ | refine aseq_normal ?_ | refine aseq_ret ?_ | refine aseq_exit ?_ | refine ablock_normal ?_ | refine ablock_ret ?_ | refine ablock_same ?_ | refine ablock_other (by decide) ?_ | ((repeat ((fail_if_success (refine hK.out _ _ ?_)); clear hK; (try clear hP EG); (try clear KS))); refine hK.out _ _ ?_; clear hK; (try clear hP EG); try clear KS) | refine awp_seq (fun KS hK => ?_) | refine awp_region (fun KS EG hK hP => ?_) | refine awp_block ?_ | refine awp_skip ?_ | refine awp_ret ?_ | refine awp_exit ?_ | (refine awp_condT ?_ ?_; (focus (simp [*]; done))) | (refine awp_condF ?_ ?_; (focus (simp [*]; done))) | ((first | (refine aops_guardF rfl ?_ ?_; (focus (simp [*]; done))) | (refine aops_guardU rfl ?_ ?_; (focus (simp [*]; done)))); (first | refine aput_some (by decide) ?_ | refine aput_none ?_)))
    (try refine' wlk0)
    ((try simp [*]); (try simp (discharger := omega) only [wrap_i64, dec_t, dec_f]))
    exact .mk _ τ (.refl _) leT ⟨rfl, rfl⟩
set_option maxHeartbeats 4000000 in
theorem refOverT (dep : Int) (sug : Bool) (row : List Stp) (came : List ByteArray) (hlen : row.length ≤ 100000000000) (hcl : came.length ≤ 100000000000) (σ : St) :
    Tri Tryd.prog 15 [wD dep sug row came] σ fun d τ => d = .b (overW row came) ∧ τ = σ := by
  have RI := Lib.hid (fun s => refInT came s (by omega))
  unfold wD
  refine tri_fn Tryd.func15 rfl Tryd.ntmps15 Tryd.results15 (Nat.le_of_ble_eq_true rfl) ?_
  refine' wlk0
  refine' genS
  refine awp_loopM [2, 3, 7, 8, 9, 10, 11, 12, 13, 14, 15, 16, 17, 18, 19, 20] (fun X τ => ∃ i : Nat, i ≤ row.length ∧ X 7 = .i i ∧ overW row came = overW (row.drop i) came ∧ τ = σ1) (fun X _ => row.length - (X 7).int.toNat) ?_ ?_
  · exact .same ⟨mix_self _ _, 0, by omega, by simp [*], by simp, rfl⟩
  · rintro X τ ⟨i, hi, h7, hov, rfl⟩ _ hL
    have HOV := Lib.hid hov
    clear hov
    by_cases hlt : i < row.length
    · have hd : row.drop i = row[i] :: row.drop (i + 1) := List.drop_eq_getElem_cons hlt
      have HX := Lib.hid (show overW row came = (inS came row[i].room && overW (row.drop (i + 1)) came) by rw [HOV.out, hd]; rfl)
      have RS := Lib.hid (RI.out row[i].room)
      have hsd : row[i].d = [.s row[i].room, .i row[i].depth, .lst false 1 (txtD row[i].via)] := rfl
      clear hd
      cases hc : inS came row[i].room with
      | true =>
        rw [hc] at RS HX
        rw [Bool.true_and] at HX
        refine' wlk0
        (refine awp_draw (fun KS EG hK hP => ?_); refine draw_rule rfl [(0, true), (1, false), (2, true), (3, false), (4, true), (5, true), (6, true), (7, false), (8, false), (9, true)] [] [] (by kernel_rfl) ?_; refine' dqs1 RS.out)
        refine' wlk0
        refine hL.out _ _ (.same ⟨mixT, ⟨i + 1, by omega, ?_, HX.out, rfl⟩, ?_⟩)
        · simp [*]
        · simp [*, D.int]; omega
      | false =>
        rw [hc] at RS HX
        rw [Bool.false_and] at HX
        refine' wlk0
        (refine awp_draw (fun KS EG hK hP => ?_); refine draw_rule rfl [(0, true), (1, false), (2, true), (3, false), (4, true), (5, true), (6, true), (7, false), (8, false), (9, true)] [] [] (by kernel_rfl) ?_; refine' dqs1 RS.out)
        refine' wlk0
        ((try simp [*]); (try simp (discharger := omega) only [wrap_i64, dec_t, dec_f]))
        exact .mk _ σ (.refl _) HLE ⟨by rw [HX.out], rfl⟩
    · have he : overW row came = true := by
        rw [HOV.out, List.drop_eq_nil_of_le (by omega)]
        rfl
      refine' wlk0
      ((try simp [*]); (try simp (discharger := omega) only [wrap_i64, dec_t, dec_f]))
      exact .mk _ σ (.refl _) HLE ⟨by first | rfl | rw [he], rfl⟩
end Go.Proofs.YtcmingndbhldgaaDoor
/-
  errors.Is at two codes: it tells whether they are one.
-/
namespace Go.Proofs.YtcmingndbhldgaaDoor
open Go.RowKit Go.Extern.Stop Go.Stop Go.Extern
set_option linter.unusedVariables false
section
variable {P : Program} (w : World)
theorem run_equalIn_iface_int (d : Nat) {ti tn : TypeId} {ms : Array (String × TypeId)} {i : TypeInfo} {k : IntKind} (a b : Int)
    (hi : P.underlying ti = some (.interface ms)) (hn : P.underlying tn = some (.int k)) (hinfo : P.info? tn = some i) (hcomp : i.comparable = true) :
    (Op.equalIn (d + 2) ti (.iface tn (.int k a)) (.iface tn (.int k b))).run P w = .ok (a == b) w := by
  simp [Op.equalIn, run_underlying hi, run_underlying hn, typeInfo, hinfo, hcomp]
/-- 'x == y', both interface values of one integer type: as the numbers are. -/
theorem run_eql_iface_int {ti tn : TypeId} {ms : Array (String × TypeId)} {i : TypeInfo} {k : IntKind} (a b : Int)
    (hi : P.underlying ti = some (.interface ms)) (hn : P.underlying tn = some (.int k)) (hinfo : P.info? tn = some i) (hcomp : i.comparable = true) :
    (binOp .eql ti (.iface tn (.int k a)) (.iface tn (.int k b))).run P w = .ok (.bool (a == b)) w := by
  simp only [binOp]
  simp [Op.equal, Op.maxDepth, run_equalIn_iface_int w 9998 a b hi hn hinfo hcomp]
end

theorem info_code : (Tryd.prog.info? 68).map (·.comparable) = some true := by kernel_rfl
theorem code_eql (a b : Int) (w : World) : (binOp .eql 29 (.iface 68 (.int .i64 a)) (.iface 68 (.int .i64 b))).run Tryd.prog w = .ok (.bool (a == b)) w := by
  cases hi : Tryd.prog.info? 68 with
  | none => have h := info_code; rw [hi] at h; cases h
  | some i =>
    have h := info_code
    rw [hi] at h
    exact run_eql_iface_int w a b Tryd.underlying29 Tryd.underlying68 hi (by simpa using h)

theorem noUnwrap_code (v : Value) (w : World) : (Instr.typeAssert (.iface 68 v) 29 129 true).run Tryd.prog w = .ok (.tuple #[.nilIface, .bool false]) w := run_typeAssert_lacksB Tryd.underlying129 (by kernel_rfl) (by kernel_rfl) v _ w
theorem noUnwraps_code (v : Value) (w : World) : (Instr.typeAssert (.iface 68 v) 29 131 true).run Tryd.prog w = .ok (.tuple #[.nilIface, .bool false]) w := run_typeAssert_lacksB Tryd.underlying131 (by kernel_rfl) (by kernel_rfl) v _ w

theorem typeOf_code (v : Value) (w : World) : (ReflectliteType.typeOf #[.iface 68 v]).run Tryd.prog w = .ok (.iface 121 (.agg #[.pointer (some ⟨2, 68, none⟩)])) w := by kernel_rfl

theorem method_comparable (h : Value) (w : World) : (Go.method 272 121 (.agg #[h]) "Comparable").run Tryd.prog w = .ok (97, .agg #[h]) w := by kernel_rfl
theorem comparable_code (w : World) : ((ReflectliteType.method fun t => do Rtype.noPackHeld "Comparable" t; (fun a : TypeInfo => Value.bool a.comparable) <$> typeInfo t) #[.agg #[.pointer (some ⟨2, 68, none⟩)]]).run Tryd.prog w = .ok (.bool true) w := by kernel_rfl

end Go.Proofs.YtcmingndbhldgaaDoor
/-
  errors.As at a code: into a *api.Code it is laid, into a **api.Fault it isn't.
-/
namespace Go.Proofs.YtcmingndbhldgaaDoor
open Go.RowKit Go.Extern.Stop Go.Stop Go.Extern
set_option linter.unusedVariables false
set_option linter.unusedSimpArgs false

theorem rlm (z : Sem Value) (f : TypeId → Addr → Nat → Nat → Sem Value) (v : Value) :
    ReflectliteValue.method z f #[v] = (do match ← ReflectliteValue.parts v with | none => z | some (t, a, fl) => f t a fl (fl % 32)) := rfl
theorem rls (v x : Value) : ReflectliteValue.set #[v, x] = (do
    let (some (dst, a, fl), some (src, b, _)) := (← ReflectliteValue.parts v, ← ReflectliteValue.parts x)
      | unsupported (.noEntry "extern/(internal/reflectlite.Value).Set.zeroValue")
    if fl / ReflectliteValue.flagAddr % 2 == 0 then unsupported (.noEntry "extern/(internal/reflectlite.Value).Set.unaddressable")
    let val ← loadVar src b
    if ← Rtype.directlyAssignable dst src then storeVar dst a val
    else if ← Rtype.implements dst src then
      if (← Rtype.kind src) == 20 then
        match val with
        | .nilIface => unsupported (.noEntry "extern/reflectlite: a nil value of one interface type handed on as a value of another")
        | _ => storeVar dst a val
      else storeVar dst a (.iface src val)
    else panicString ("reflectlite.Set: value of type " ++ (← Rtype.spelt src) ++ " is not assignable to type " ++ (← Rtype.spelt dst))
    pure (.tuple #[])) := rfl
theorem method_kind (h : Value) (w : World) : (Go.method 272 121 (.agg #[h]) "Kind").run Tryd.prog w = .ok (85, h) w := by kernel_rfl
theorem method_elem (h : Value) (w : World) : (Go.method 272 121 (.agg #[h]) "Elem").run Tryd.prog w = .ok (98, .agg #[h]) w := by kernel_rfl
theorem method_implements (h : Value) (w : World) : (Go.method 272 121 (.agg #[h]) "Implements").run Tryd.prog w = .ok (99, .agg #[h]) w := by kernel_rfl
theorem method_assignable (h : Value) (w : World) : (Go.method 272 121 (.agg #[h]) "AssignableTo").run Tryd.prog w = .ok (96, .agg #[h]) w := by kernel_rfl
theorem noAs_code (v : Value) (w : World) : (Instr.typeAssert (.iface 68 v) 29 126 true).run Tryd.prog w = .ok (.tuple #[.nilIface, .bool false]) w := run_typeAssert_lacksB Tryd.underlying126 (by kernel_rfl) (by kernel_rfl) v _ w

/-- What the package keeps: the type of error. -/
def ErrT (w : World) : Prop := w.cell? ⟨0, 0, none⟩ = some (.iface 121 (.agg #[.pointer (some ⟨2, 29, none⟩)]))
theorem ErrT.lt {w : World} (h : ErrT w) : 0 < w.heap.size := World.block_lt_of_cell? w ⟨0, 0, none⟩ h
theorem ErrT.below {w w' : World} (h : ErrT w) (hb : Below w.heap.size w w') : ErrT w' := (hb.cell (p := ⟨0, 0, none⟩) h.lt).trans h

theorem as_nil (t : Value) (w : World) :
    Calls Tryd.prog 22 #[.nilIface, t] w fun e w' => e = .returned (.bool false) ∧ w = w' := by
  go_enter Tryd.func22, Tryd.ntmps22
  go_wp2_with fail
  go_ret
  exact ⟨rfl, rfl⟩

/-! ### The target's type code -/
theorem valueOf_code (t : Addr) (w : World) : (ReflectliteValue.unpack (.iface 79 (.pointer (some t)))).run Tryd.prog w
    = .ok (.agg #[.pointer (some ⟨2, 79, none⟩), .pointer (some ⟨w.heap.size, 0, none⟩), .int .u64 150]) (w.alloc (.cells #[.pointer (some t)] 79)) := by kernel_rfl
theorem type_code (a : Addr) (w : World) : (ReflectliteValue.methodAny (ReflectliteValue.valueError "reflectlite.Value.Type" 0) (fun t _ _ _ => ReflectliteType.toType t) #[.agg #[.pointer (some ⟨2, 79, none⟩), .pointer (some a), .int .u64 150]]).run Tryd.prog w
    = .ok (.iface 121 (.agg #[.pointer (some ⟨2, 79, none⟩)])) w := by kernel_rfl
theorem kind_code (w : World) : ((ReflectliteType.abiMethod fun t => (fun a : Nat => Value.int IntKind.u8 (a : Int)) <$> Rtype.kind t) #[.pointer (some ⟨2, 79, none⟩)]).run Tryd.prog w = .ok (.int .u8 22) w := by kernel_rfl
theorem kindE_code (w : World) : ((ReflectliteType.abiMethod fun t => (fun a : Nat => Value.int IntKind.u8 (a : Int)) <$> Rtype.kind t) #[.pointer (some ⟨2, 68, none⟩)]).run Tryd.prog w = .ok (.int .u8 2) w := by kernel_rfl
theorem parts_code (a : Addr) (w : World) : (ReflectliteValue.parts (.agg #[.pointer (some ⟨2, 79, none⟩), .pointer (some a), .int .u64 150])).run Tryd.prog w = .ok (some (79, a, 150)) w := by kernel_rfl
theorem isNil_code (a p : Addr) (W : World) (ha : W.cell? a = some (.pointer (some p))) :
    (ReflectliteValue.method (ReflectliteValue.valueError "reflectlite.Value.IsNil" 0) ReflectliteValue.isNil #[.agg #[.pointer (some ⟨2, 79, none⟩), .pointer (some a), .int .u64 150]]).run Tryd.prog W = .ok (.bool false) W := by
  rw [rlm]
  simp only [Sem.run_bind, parts_code, Result.andThen]
  simp [ReflectliteValue.isNil, loadVar, isAgg, underlying, Tryd.underlying79, ha, Result.andThen]
theorem elem_code (w : World) : (ReflectliteType.method ReflectliteType.elem #[.agg #[.pointer (some ⟨2, 79, none⟩)]]).run Tryd.prog w = .ok (.iface 121 (.agg #[.pointer (some ⟨2, 68, none⟩)])) w := by kernel_rfl
theorem implements_code (w : World) : (ReflectliteType.relation "Implements" ReflectliteType.implements_ #[.agg #[.pointer (some ⟨2, 68, none⟩)], .iface 121 (.agg #[.pointer (some ⟨2, 29, none⟩)])]).run Tryd.prog w = .ok (.bool true) w := by kernel_rfl
theorem elemOf_code (w : World) : (Rtype.elem? 79).run Tryd.prog w = .ok (some 68) w := by kernel_rfl
theorem mk_code (p : Addr) (w : World) : (ReflectliteValue.mk 68 p ReflectliteValue.flagAddr).run Tryd.prog w = .ok (.agg #[.pointer (some ⟨2, 68, none⟩), .pointer (some p), .int .u64 386]) w := by kernel_rfl
theorem elemV_code (a p : Addr) (W : World) (ha : W.cell? a = some (.pointer (some p))) :
    (ReflectliteValue.method (ReflectliteValue.valueError "reflectlite.Value.Elem" 0) ReflectliteValue.elem #[.agg #[.pointer (some ⟨2, 79, none⟩), .pointer (some a), .int .u64 150]]).run Tryd.prog W
      = .ok (.agg #[.pointer (some ⟨2, 68, none⟩), .pointer (some p), .int .u64 386]) W := by
  rw [rlm]
  simp only [Sem.run_bind, parts_code, Result.andThen]
  simp [ReflectliteValue.elem, loadVar, isAgg, underlying, Tryd.underlying79, ha, Result.andThen, elemOf_code, mk_code]

theorem typeOfE_code (v : Value) (w : World) : (ReflectliteType.typeOf #[.iface 68 v]).run Tryd.prog w = .ok (.iface 121 (.agg #[.pointer (some ⟨2, 68, none⟩)])) w := by kernel_rfl
theorem assign_code (w : World) : (ReflectliteType.relation "AssignableTo" ReflectliteType.assignableTo #[.agg #[.pointer (some ⟨2, 68, none⟩)], .iface 121 (.agg #[.pointer (some ⟨2, 68, none⟩)])]).run Tryd.prog w = .ok (.bool true) w := by kernel_rfl
theorem valueOfE_code (c : Int) (w : World) : (ReflectliteValue.unpack (.iface 68 (.int .i64 c))).run Tryd.prog w
    = .ok (.agg #[.pointer (some ⟨2, 68, none⟩), .pointer (some ⟨w.heap.size, 0, none⟩), .int .u64 130]) (w.alloc (.cells #[.int .i64 c] 68)) := by kernel_rfl
theorem partsA_code (a : Addr) (w : World) : (ReflectliteValue.parts (.agg #[.pointer (some ⟨2, 68, none⟩), .pointer (some a), .int .u64 386])).run Tryd.prog w = .ok (some (68, a, 386)) w := by kernel_rfl
theorem partsE_code (a : Addr) (w : World) : (ReflectliteValue.parts (.agg #[.pointer (some ⟨2, 68, none⟩), .pointer (some a), .int .u64 130])).run Tryd.prog w = .ok (some (68, a, 130)) w := by kernel_rfl
theorem direct_code (w : World) : (Rtype.directlyAssignable 68 68).run Tryd.prog w = .ok true w := by kernel_rfl
theorem set_code (ta b : Addr) (c : Int) (old : Value) (W : World) (hb : W.cell? b = some (.int .i64 c)) (ht : W.cell? ta = some old) (hf : W.frozen? ta = false) :
    (ReflectliteValue.set #[.agg #[.pointer (some ⟨2, 68, none⟩), .pointer (some ta), .int .u64 386], .agg #[.pointer (some ⟨2, 68, none⟩), .pointer (some b), .int .u64 130]]).run Tryd.prog W
      = .ok (.tuple #[]) (W.setCell ta (.int .i64 c)) := by
  rw [rls]
  simp only [Sem.run_bind, partsA_code, partsE_code, Result.andThen]
  simp [ReflectliteValue.flagAddr, loadVar, isAgg, underlying, Tryd.underlying68, hb, Result.andThen, direct_code, storeVar, Value.cells, storeCells, Addr.add]
  rw [run_store Tryd.prog W ta _ _ (by rfl)]
  simp [ht, hf]

set_option maxRecDepth 100000 in
set_option maxHeartbeats 4000000 in
theorem as_hit_code (c : Int) (t : Addr) (old : Value) (w : World) (hg : ErrT w) (ht0 : w.cell? t = some old) (hf0 : w.frozen? t = false) :
    Calls Tryd.prog 22 #[.iface 68 (.int .i64 c), .iface 79 (.pointer (some t))] w fun ev w' => ev = .returned (.bool true) ∧ w' = ((((w.alloc (.cells #[.pointer (some t)] 79)).alloc (.cells #[.pointer (some ⟨2, 79, none⟩), .pointer (some ⟨w.heap.size, 0, none⟩), .int .u64 150] 98)).alloc (.cells #[.pointer (some ⟨2, 79, none⟩), .pointer (some ⟨w.heap.size, 0, none⟩), .int .u64 150] 98)).alloc (.cells #[.int .i64 c] 68)).setCell t (.int .i64 c) := by
  have hVO := @run_callFunc_extern Tryd.prog 39 _ (fun args => ReflectliteValue.unpack (args.getD 0 (.tuple #[]))) Tryd.func39 (by kernel_rfl) (by kernel_rfl) (by kernel_rfl) (by kernel_rfl)
  have hVT := @run_callFunc_extern Tryd.prog 40 _ (ReflectliteValue.methodAny (ReflectliteValue.valueError "reflectlite.Value.Type" 0) (fun t _ _ _ => ReflectliteType.toType t)) Tryd.func40 (by kernel_rfl) (by kernel_rfl) (by kernel_rfl) (by kernel_rfl)
  have hVN := @run_callFunc_extern Tryd.prog 41 _ (ReflectliteValue.method (ReflectliteValue.valueError "reflectlite.Value.IsNil" 0) ReflectliteValue.isNil) Tryd.func41 (by kernel_rfl) (by kernel_rfl) (by kernel_rfl) (by kernel_rfl)
  have hK := @run_callFunc_extern Tryd.prog 85 _ (ReflectliteType.abiMethod fun t => do pure (.int .u8 (← Rtype.kind t))) Tryd.func85 (by kernel_rfl) (by kernel_rfl) (by kernel_rfl) (by kernel_rfl)
  have hE := @run_callFunc_extern Tryd.prog 98 _ (ReflectliteType.method ReflectliteType.elem) Tryd.func98 (by kernel_rfl) (by kernel_rfl) (by kernel_rfl) (by kernel_rfl)
  have hI := @run_callFunc_extern Tryd.prog 99 _ (ReflectliteType.relation "Implements" ReflectliteType.implements_) Tryd.func99 (by kernel_rfl) (by kernel_rfl) (by kernel_rfl) (by kernel_rfl)
  have hT := @run_callFunc_extern Tryd.prog 55 _ ReflectliteType.typeOf Tryd.func55 (by kernel_rfl) (by kernel_rfl) (by kernel_rfl) (by kernel_rfl)
  have hA := @run_callFunc_extern Tryd.prog 96 _ (ReflectliteType.relation "AssignableTo" ReflectliteType.assignableTo) Tryd.func96 (by kernel_rfl) (by kernel_rfl) (by kernel_rfl) (by kernel_rfl)
  have hVE := @run_callFunc_extern Tryd.prog 56 _ (ReflectliteValue.method (ReflectliteValue.valueError "reflectlite.Value.Elem" 0) ReflectliteValue.elem) Tryd.func56 (by kernel_rfl) (by kernel_rfl) (by kernel_rfl) (by kernel_rfl)
  have hVS := @run_callFunc_extern Tryd.prog 57 _ ReflectliteValue.set Tryd.func57 (by kernel_rfl) (by kernel_rfl) (by kernel_rfl) (by kernel_rfl)
  have mK := method_kind
  have mE := method_elem
  have mI := method_implements
  have mA := method_assignable
  have tO := typeOfE_code
  have aE := assign_code
  have vE := valueOfE_code
  have vP := valueOf_code
  have tP := type_code
  have kP := kind_code
  have kE := kindE_code
  have eP := elem_code
  have iE := implements_code
  have hlt := hg.lt
  have n8 := isNil_code ⟨w.heap.size, 0, none⟩ t ((w.alloc (.cells #[.pointer (some t)] 79)).alloc (.cells #[.pointer (some ⟨2, 79, none⟩), .pointer (some ⟨w.heap.size, 0, none⟩), .int .u64 150] 98)) (by simp)
  have hg2 : ((w.alloc (.cells #[.pointer (some t)] 79)).alloc (.cells #[.pointer (some ⟨2, 79, none⟩), .pointer (some ⟨w.heap.size, 0, none⟩), .int .u64 150] 98)).cell? ⟨0, 0, none⟩ = some (.iface 121 (.agg #[.pointer (some ⟨2, 29, none⟩)])) := by
    rw [World.cell?_alloc_lt _ _ ⟨0, 0, none⟩ (by simp), World.cell?_alloc_lt _ _ ⟨0, 0, none⟩ hlt]; exact hg
  have htl : t.block < w.heap.size := World.block_lt_of_cell? w t ht0
  have el := elemV_code ⟨w.heap.size, 0, none⟩ t (((w.alloc (.cells #[.pointer (some t)] 79)).alloc (.cells #[.pointer (some ⟨2, 79, none⟩), .pointer (some ⟨w.heap.size, 0, none⟩), .int .u64 150] 98)).alloc (.cells #[.pointer (some ⟨2, 79, none⟩), .pointer (some ⟨w.heap.size, 0, none⟩), .int .u64 150] 98)) (by rw [World.cell?_alloc_lt _ _ ⟨w.heap.size, 0, none⟩ (by simp; omega)]; simp)
  have st := set_code t ⟨w.heap.size + 1 + 1 + 1, 0, none⟩ c old ((((w.alloc (.cells #[.pointer (some t)] 79)).alloc (.cells #[.pointer (some ⟨2, 79, none⟩), .pointer (some ⟨w.heap.size, 0, none⟩), .int .u64 150] 98)).alloc (.cells #[.pointer (some ⟨2, 79, none⟩), .pointer (some ⟨w.heap.size, 0, none⟩), .int .u64 150] 98)).alloc (.cells #[.int .i64 c] 68))
    (by rw [World.cell?_alloc_at _ _ _ _ (by simp)]; rfl)
    (by rw [World.cell?_alloc_lt _ _ t (by simp; omega), World.cell?_alloc_lt _ _ t (by simp; omega), World.cell?_alloc_lt _ _ t (by simp; omega), World.cell?_alloc_lt _ _ t htl]; exact ht0)
    (by rw [World.frozen?_alloc_old _ _ t (by simp; omega), World.frozen?_alloc_old _ _ t (by simp; omega), World.frozen?_alloc_old _ _ t (by simp; omega), World.frozen?_alloc_old _ _ t (Nat.ne_of_lt htl)]; exact hf0)
  have HG := Lib.hid hg
  clear hg
  go_enter Tryd.func22, Tryd.ntmps22
  go_wp2
  refine wp_loop_rounds 1 ?_
  rw [rounds_succ]
  go_wp2
  go_ret
  exact ⟨rfl, rfl⟩

/-! ### The target's type fault -/
theorem valueOf_fault (t : Addr) (w : World) : (ReflectliteValue.unpack (.iface 80 (.pointer (some t)))).run Tryd.prog w
    = .ok (.agg #[.pointer (some ⟨2, 80, none⟩), .pointer (some ⟨w.heap.size, 0, none⟩), .int .u64 150]) (w.alloc (.cells #[.pointer (some t)] 80)) := by kernel_rfl
theorem type_fault (a : Addr) (w : World) : (ReflectliteValue.methodAny (ReflectliteValue.valueError "reflectlite.Value.Type" 0) (fun t _ _ _ => ReflectliteType.toType t) #[.agg #[.pointer (some ⟨2, 80, none⟩), .pointer (some a), .int .u64 150]]).run Tryd.prog w
    = .ok (.iface 121 (.agg #[.pointer (some ⟨2, 80, none⟩)])) w := by kernel_rfl
theorem kind_fault (w : World) : ((ReflectliteType.abiMethod fun t => (fun a : Nat => Value.int IntKind.u8 (a : Int)) <$> Rtype.kind t) #[.pointer (some ⟨2, 80, none⟩)]).run Tryd.prog w = .ok (.int .u8 22) w := by kernel_rfl
theorem kindE_fault (w : World) : ((ReflectliteType.abiMethod fun t => (fun a : Nat => Value.int IntKind.u8 (a : Int)) <$> Rtype.kind t) #[.pointer (some ⟨2, 67, none⟩)]).run Tryd.prog w = .ok (.int .u8 22) w := by kernel_rfl
theorem parts_fault (a : Addr) (w : World) : (ReflectliteValue.parts (.agg #[.pointer (some ⟨2, 80, none⟩), .pointer (some a), .int .u64 150])).run Tryd.prog w = .ok (some (80, a, 150)) w := by kernel_rfl
theorem isNil_fault (a p : Addr) (W : World) (ha : W.cell? a = some (.pointer (some p))) :
    (ReflectliteValue.method (ReflectliteValue.valueError "reflectlite.Value.IsNil" 0) ReflectliteValue.isNil #[.agg #[.pointer (some ⟨2, 80, none⟩), .pointer (some a), .int .u64 150]]).run Tryd.prog W = .ok (.bool false) W := by
  rw [rlm]
  simp only [Sem.run_bind, parts_fault, Result.andThen]
  simp [ReflectliteValue.isNil, loadVar, isAgg, underlying, Tryd.underlying80, ha, Result.andThen]
theorem elem_fault (w : World) : (ReflectliteType.method ReflectliteType.elem #[.agg #[.pointer (some ⟨2, 80, none⟩)]]).run Tryd.prog w = .ok (.iface 121 (.agg #[.pointer (some ⟨2, 67, none⟩)])) w := by kernel_rfl
theorem implements_fault (w : World) : (ReflectliteType.relation "Implements" ReflectliteType.implements_ #[.agg #[.pointer (some ⟨2, 67, none⟩)], .iface 121 (.agg #[.pointer (some ⟨2, 29, none⟩)])]).run Tryd.prog w = .ok (.bool true) w := by kernel_rfl
theorem elemOf_fault (w : World) : (Rtype.elem? 80).run Tryd.prog w = .ok (some 67) w := by kernel_rfl
theorem mk_fault (p : Addr) (w : World) : (ReflectliteValue.mk 67 p ReflectliteValue.flagAddr).run Tryd.prog w = .ok (.agg #[.pointer (some ⟨2, 67, none⟩), .pointer (some p), .int .u64 406]) w := by kernel_rfl
theorem elemV_fault (a p : Addr) (W : World) (ha : W.cell? a = some (.pointer (some p))) :
    (ReflectliteValue.method (ReflectliteValue.valueError "reflectlite.Value.Elem" 0) ReflectliteValue.elem #[.agg #[.pointer (some ⟨2, 80, none⟩), .pointer (some a), .int .u64 150]]).run Tryd.prog W
      = .ok (.agg #[.pointer (some ⟨2, 67, none⟩), .pointer (some p), .int .u64 406]) W := by
  rw [rlm]
  simp only [Sem.run_bind, parts_fault, Result.andThen]
  simp [ReflectliteValue.elem, loadVar, isAgg, underlying, Tryd.underlying80, ha, Result.andThen, elemOf_fault, mk_fault]

theorem noAssign_fault (w : World) : (ReflectliteType.relation "AssignableTo" ReflectliteType.assignableTo #[.agg #[.pointer (some ⟨2, 68, none⟩)], .iface 121 (.agg #[.pointer (some ⟨2, 67, none⟩)])]).run Tryd.prog w = .ok (.bool false) w := by kernel_rfl
set_option maxRecDepth 100000 in
set_option maxHeartbeats 4000000 in
theorem as_miss_fault (c : Int) (t : Addr) (old : Value) (w : World) (hg : ErrT w) (ht0 : w.cell? t = some old) :
    Calls Tryd.prog 22 #[.iface 68 (.int .i64 c), .iface 80 (.pointer (some t))] w fun ev w' => ev = .returned (.bool false) ∧ w' = (((w.alloc (.cells #[.pointer (some t)] 80)).alloc (.cells #[.pointer (some ⟨2, 80, none⟩), .pointer (some ⟨w.heap.size, 0, none⟩), .int .u64 150] 98)).alloc (.cells #[.pointer (some ⟨2, 80, none⟩), .pointer (some ⟨w.heap.size, 0, none⟩), .int .u64 150] 98)) := by
  have hVO := @run_callFunc_extern Tryd.prog 39 _ (fun args => ReflectliteValue.unpack (args.getD 0 (.tuple #[]))) Tryd.func39 (by kernel_rfl) (by kernel_rfl) (by kernel_rfl) (by kernel_rfl)
  have hVT := @run_callFunc_extern Tryd.prog 40 _ (ReflectliteValue.methodAny (ReflectliteValue.valueError "reflectlite.Value.Type" 0) (fun t _ _ _ => ReflectliteType.toType t)) Tryd.func40 (by kernel_rfl) (by kernel_rfl) (by kernel_rfl) (by kernel_rfl)
  have hVN := @run_callFunc_extern Tryd.prog 41 _ (ReflectliteValue.method (ReflectliteValue.valueError "reflectlite.Value.IsNil" 0) ReflectliteValue.isNil) Tryd.func41 (by kernel_rfl) (by kernel_rfl) (by kernel_rfl) (by kernel_rfl)
  have hK := @run_callFunc_extern Tryd.prog 85 _ (ReflectliteType.abiMethod fun t => do pure (.int .u8 (← Rtype.kind t))) Tryd.func85 (by kernel_rfl) (by kernel_rfl) (by kernel_rfl) (by kernel_rfl)
  have hE := @run_callFunc_extern Tryd.prog 98 _ (ReflectliteType.method ReflectliteType.elem) Tryd.func98 (by kernel_rfl) (by kernel_rfl) (by kernel_rfl) (by kernel_rfl)
  have hI := @run_callFunc_extern Tryd.prog 99 _ (ReflectliteType.relation "Implements" ReflectliteType.implements_) Tryd.func99 (by kernel_rfl) (by kernel_rfl) (by kernel_rfl) (by kernel_rfl)
  have hT := @run_callFunc_extern Tryd.prog 55 _ ReflectliteType.typeOf Tryd.func55 (by kernel_rfl) (by kernel_rfl) (by kernel_rfl) (by kernel_rfl)
  have hA := @run_callFunc_extern Tryd.prog 96 _ (ReflectliteType.relation "AssignableTo" ReflectliteType.assignableTo) Tryd.func96 (by kernel_rfl) (by kernel_rfl) (by kernel_rfl) (by kernel_rfl)
  have hVE := @run_callFunc_extern Tryd.prog 56 _ (ReflectliteValue.method (ReflectliteValue.valueError "reflectlite.Value.Elem" 0) ReflectliteValue.elem) Tryd.func56 (by kernel_rfl) (by kernel_rfl) (by kernel_rfl) (by kernel_rfl)
  have hVS := @run_callFunc_extern Tryd.prog 57 _ ReflectliteValue.set Tryd.func57 (by kernel_rfl) (by kernel_rfl) (by kernel_rfl) (by kernel_rfl)
  have mK := method_kind
  have mE := method_elem
  have mI := method_implements
  have mA := method_assignable
  have tO := typeOf_code
  have aE := noAssign_fault
  have vP := valueOf_fault
  have tP := type_fault
  have kP := kind_fault
  have kE := kindE_fault
  have eP := elem_fault
  have iE := implements_fault
  have h1 := noAs_code (.int .i64 c)
  have h2 := noUnwrap_code (.int .i64 c)
  have h3 := noUnwraps_code (.int .i64 c)
  have hlt := hg.lt
  have n8 := isNil_fault ⟨w.heap.size, 0, none⟩ t ((w.alloc (.cells #[.pointer (some t)] 80)).alloc (.cells #[.pointer (some ⟨2, 80, none⟩), .pointer (some ⟨w.heap.size, 0, none⟩), .int .u64 150] 98)) (by simp)
  have hg2 : ((w.alloc (.cells #[.pointer (some t)] 80)).alloc (.cells #[.pointer (some ⟨2, 80, none⟩), .pointer (some ⟨w.heap.size, 0, none⟩), .int .u64 150] 98)).cell? ⟨0, 0, none⟩ = some (.iface 121 (.agg #[.pointer (some ⟨2, 29, none⟩)])) := by
    rw [World.cell?_alloc_lt _ _ ⟨0, 0, none⟩ (by simp), World.cell?_alloc_lt _ _ ⟨0, 0, none⟩ hlt]; exact hg
  have HG := Lib.hid hg
  clear hg
  go_enter Tryd.func22, Tryd.ntmps22
  go_wp2
  refine wp_loop_rounds 1 ?_
  rw [rounds_succ]
  go_wp2
  go_ret
  exact ⟨rfl, rfl⟩

end Go.Proofs.YtcmingndbhldgaaDoor
/-
  errors.As at a *api.Fault, into a **api.Fault: it is laid.
-/
namespace Go.Proofs.YtcmingndbhldgaaDoor
open Go.RowKit Go.Extern.Stop Go.Stop Go.Extern
set_option linter.unusedVariables false
set_option linter.unusedSimpArgs false

theorem typeOfE_fault (v : Value) (w : World) : (ReflectliteType.typeOf #[.iface 67 v]).run Tryd.prog w = .ok (.iface 121 (.agg #[.pointer (some ⟨2, 67, none⟩)])) w := by kernel_rfl
theorem assign_fault (w : World) : (ReflectliteType.relation "AssignableTo" ReflectliteType.assignableTo #[.agg #[.pointer (some ⟨2, 67, none⟩)], .iface 121 (.agg #[.pointer (some ⟨2, 67, none⟩)])]).run Tryd.prog w = .ok (.bool true) w := by kernel_rfl
theorem valueOfE_fault (e : Addr) (w : World) : (ReflectliteValue.unpack (.iface 67 (.pointer (some e)))).run Tryd.prog w
    = .ok (.agg #[.pointer (some ⟨2, 67, none⟩), .pointer (some ⟨w.heap.size, 0, none⟩), .int .u64 150]) (w.alloc (.cells #[.pointer (some e)] 67)) := by kernel_rfl
theorem partsA_fault (a : Addr) (w : World) : (ReflectliteValue.parts (.agg #[.pointer (some ⟨2, 67, none⟩), .pointer (some a), .int .u64 406])).run Tryd.prog w = .ok (some (67, a, 406)) w := by kernel_rfl
theorem partsE_fault (a : Addr) (w : World) : (ReflectliteValue.parts (.agg #[.pointer (some ⟨2, 67, none⟩), .pointer (some a), .int .u64 150])).run Tryd.prog w = .ok (some (67, a, 150)) w := by kernel_rfl
theorem direct_fault (w : World) : (Rtype.directlyAssignable 67 67).run Tryd.prog w = .ok true w := by kernel_rfl
theorem set_fault (ta b : Addr) (e : Addr) (old : Value) (W : World) (hb : W.cell? b = some (.pointer (some e))) (ht : W.cell? ta = some old) (hf : W.frozen? ta = false) :
    (ReflectliteValue.set #[.agg #[.pointer (some ⟨2, 67, none⟩), .pointer (some ta), .int .u64 406], .agg #[.pointer (some ⟨2, 67, none⟩), .pointer (some b), .int .u64 150]]).run Tryd.prog W
      = .ok (.tuple #[]) (W.setCell ta (.pointer (some e))) := by
  rw [rls]
  simp only [Sem.run_bind, partsA_fault, partsE_fault, Result.andThen]
  simp [ReflectliteValue.flagAddr, loadVar, isAgg, underlying, Tryd.underlying67, hb, Result.andThen, direct_fault, storeVar, Value.cells, storeCells, Addr.add]
  rw [run_store Tryd.prog W ta _ _ (by rfl)]
  simp [ht, hf]

set_option maxRecDepth 100000 in
set_option maxHeartbeats 4000000 in
theorem as_hit_fault (e : Addr) (t : Addr) (old : Value) (w : World) (hg : ErrT w) (ht0 : w.cell? t = some old) (hf0 : w.frozen? t = false) :
    Calls Tryd.prog 22 #[.iface 67 (.pointer (some e)), .iface 80 (.pointer (some t))] w fun ev w' => ev = .returned (.bool true) ∧ w' = ((((w.alloc (.cells #[.pointer (some t)] 80)).alloc (.cells #[.pointer (some ⟨2, 80, none⟩), .pointer (some ⟨w.heap.size, 0, none⟩), .int .u64 150] 98)).alloc (.cells #[.pointer (some ⟨2, 80, none⟩), .pointer (some ⟨w.heap.size, 0, none⟩), .int .u64 150] 98)).alloc (.cells #[.pointer (some e)] 67)).setCell t (.pointer (some e)) := by
  have hVO := @run_callFunc_extern Tryd.prog 39 _ (fun args => ReflectliteValue.unpack (args.getD 0 (.tuple #[]))) Tryd.func39 (by kernel_rfl) (by kernel_rfl) (by kernel_rfl) (by kernel_rfl)
  have hVT := @run_callFunc_extern Tryd.prog 40 _ (ReflectliteValue.methodAny (ReflectliteValue.valueError "reflectlite.Value.Type" 0) (fun t _ _ _ => ReflectliteType.toType t)) Tryd.func40 (by kernel_rfl) (by kernel_rfl) (by kernel_rfl) (by kernel_rfl)
  have hVN := @run_callFunc_extern Tryd.prog 41 _ (ReflectliteValue.method (ReflectliteValue.valueError "reflectlite.Value.IsNil" 0) ReflectliteValue.isNil) Tryd.func41 (by kernel_rfl) (by kernel_rfl) (by kernel_rfl) (by kernel_rfl)
  have hK := @run_callFunc_extern Tryd.prog 85 _ (ReflectliteType.abiMethod fun t => do pure (.int .u8 (← Rtype.kind t))) Tryd.func85 (by kernel_rfl) (by kernel_rfl) (by kernel_rfl) (by kernel_rfl)
  have hE := @run_callFunc_extern Tryd.prog 98 _ (ReflectliteType.method ReflectliteType.elem) Tryd.func98 (by kernel_rfl) (by kernel_rfl) (by kernel_rfl) (by kernel_rfl)
  have hI := @run_callFunc_extern Tryd.prog 99 _ (ReflectliteType.relation "Implements" ReflectliteType.implements_) Tryd.func99 (by kernel_rfl) (by kernel_rfl) (by kernel_rfl) (by kernel_rfl)
  have hT := @run_callFunc_extern Tryd.prog 55 _ ReflectliteType.typeOf Tryd.func55 (by kernel_rfl) (by kernel_rfl) (by kernel_rfl) (by kernel_rfl)
  have hA := @run_callFunc_extern Tryd.prog 96 _ (ReflectliteType.relation "AssignableTo" ReflectliteType.assignableTo) Tryd.func96 (by kernel_rfl) (by kernel_rfl) (by kernel_rfl) (by kernel_rfl)
  have hVE := @run_callFunc_extern Tryd.prog 56 _ (ReflectliteValue.method (ReflectliteValue.valueError "reflectlite.Value.Elem" 0) ReflectliteValue.elem) Tryd.func56 (by kernel_rfl) (by kernel_rfl) (by kernel_rfl) (by kernel_rfl)
  have hVS := @run_callFunc_extern Tryd.prog 57 _ ReflectliteValue.set Tryd.func57 (by kernel_rfl) (by kernel_rfl) (by kernel_rfl) (by kernel_rfl)
  have mK := method_kind
  have mE := method_elem
  have mI := method_implements
  have mA := method_assignable
  have tO := typeOfE_fault
  have aE := assign_fault
  have vE := valueOfE_fault
  have vP := valueOf_fault
  have tP := type_fault
  have kP := kind_fault
  have kE := kindE_fault
  have eP := elem_fault
  have iE := implements_fault
  have hlt := hg.lt
  have n8 := isNil_fault ⟨w.heap.size, 0, none⟩ t ((w.alloc (.cells #[.pointer (some t)] 80)).alloc (.cells #[.pointer (some ⟨2, 80, none⟩), .pointer (some ⟨w.heap.size, 0, none⟩), .int .u64 150] 98)) (by simp)
  have hg2 : ((w.alloc (.cells #[.pointer (some t)] 80)).alloc (.cells #[.pointer (some ⟨2, 80, none⟩), .pointer (some ⟨w.heap.size, 0, none⟩), .int .u64 150] 98)).cell? ⟨0, 0, none⟩ = some (.iface 121 (.agg #[.pointer (some ⟨2, 29, none⟩)])) := by
    rw [World.cell?_alloc_lt _ _ ⟨0, 0, none⟩ (by simp), World.cell?_alloc_lt _ _ ⟨0, 0, none⟩ hlt]; exact hg
  have htl : t.block < w.heap.size := World.block_lt_of_cell? w t ht0
  have el := elemV_fault ⟨w.heap.size, 0, none⟩ t (((w.alloc (.cells #[.pointer (some t)] 80)).alloc (.cells #[.pointer (some ⟨2, 80, none⟩), .pointer (some ⟨w.heap.size, 0, none⟩), .int .u64 150] 98)).alloc (.cells #[.pointer (some ⟨2, 80, none⟩), .pointer (some ⟨w.heap.size, 0, none⟩), .int .u64 150] 98)) (by rw [World.cell?_alloc_lt _ _ ⟨w.heap.size, 0, none⟩ (by simp; omega)]; simp)
  have st := set_fault t ⟨w.heap.size + 1 + 1 + 1, 0, none⟩ e old ((((w.alloc (.cells #[.pointer (some t)] 80)).alloc (.cells #[.pointer (some ⟨2, 80, none⟩), .pointer (some ⟨w.heap.size, 0, none⟩), .int .u64 150] 98)).alloc (.cells #[.pointer (some ⟨2, 80, none⟩), .pointer (some ⟨w.heap.size, 0, none⟩), .int .u64 150] 98)).alloc (.cells #[.pointer (some e)] 67))
    (by rw [World.cell?_alloc_at _ _ _ _ (by simp)]; rfl)
    (by rw [World.cell?_alloc_lt _ _ t (by simp; omega), World.cell?_alloc_lt _ _ t (by simp; omega), World.cell?_alloc_lt _ _ t (by simp; omega), World.cell?_alloc_lt _ _ t htl]; exact ht0)
    (by rw [World.frozen?_alloc_old _ _ t (by simp; omega), World.frozen?_alloc_old _ _ t (by simp; omega), World.frozen?_alloc_old _ _ t (by simp; omega), World.frozen?_alloc_old _ _ t (Nat.ne_of_lt htl)]; exact hf0)
  have HG := Lib.hid hg
  clear hg
  go_enter Tryd.func22, Tryd.ntmps22
  go_wp2
  refine wp_loop_rounds 1 ?_
  rw [rounds_succ]
  go_wp2
  go_ret
  exact ⟨rfl, rfl⟩

end Go.Proofs.YtcmingndbhldgaaDoor
/-
  Errors, as they are told, and as the program has them.
-/
namespace Go.Proofs.YtcmingndbhldgaaDoor
open Go.RowKit
set_option maxRecDepth 100000
set_option linter.unusedVariables false
set_option linter.unusedSimpArgs false
attribute [local irreducible] awp aops aop aput aseq ablock TriX Tri Ret Fresh dq adraw dtail dals dfin Wk

/-- An error as it is told: its code, its place, its path. -/
structure ErT where
  code : Int
  at_ : Int
  path : ByteArray
def ErT.d (e : ErT) : List D := [.i e.code, .i e.at_, .s e.path]
def ErT.none : ErT := ⟨0, -1, ByteArray.empty⟩
def ErT.err (c : Int) : ErT := ⟨c, -1, ByteArray.empty⟩
def ErT.in_ (f : ByteArray) (e : ErT) : ErT := if e.code = 0 then e else ⟨e.code, e.at_, ByteArray.mk #[47] ++ f ++ e.path⟩
theorem noneT (σ : St) : Tri Tryd.prog 21 [] σ fun d τ => d = .agg ErT.none.d ∧ τ = σ := by
  refine tri_fn Tryd.func21 rfl Tryd.ntmps21 Tryd.results21 (Nat.le_of_ble_eq_true rfl) ?_
  refine' wlk0
  ((try simp [*]); (try simp (discharger := omega) only [wrap_i64, dec_t, dec_f]))
  exact .mk _ σ (.refl _) leT ⟨rfl, rfl⟩
theorem errT (c : Int) (σ : St) : Tri Tryd.prog 20 [.i c] σ fun d τ => d = .agg (ErT.err c).d ∧ τ = σ := by
  refine tri_fn Tryd.func20 rfl Tryd.ntmps20 Tryd.results20 (Nat.le_of_ble_eq_true rfl) ?_
  refine' wlk0
  ((try simp [*]); (try simp (discharger := omega) only [wrap_i64, dec_t, dec_f]))
  exact .mk _ σ (.refl _) leT ⟨rfl, rfl⟩
theorem inT (f : ByteArray) (e : ErT) (σ : St) (hs : f.size + e.path.size ≤ 4611686018427387904) : Tri Tryd.prog 19 [.s f, .agg e.d] σ fun d τ => d = .agg (ErT.in_ f e).d ∧ τ = σ := by
  obtain ⟨c, a, p⟩ := e
  rw [ErT.d]
  simp only at hs
  refine tri_fn Tryd.func19 rfl Tryd.ntmps19 Tryd.results19 (Nat.le_of_ble_eq_true rfl) ?_
  by_cases hc : c = 0
  · subst hc
    refine' wlk0
    ((try simp [*]); (try simp (discharger := omega) only [wrap_i64, dec_t, dec_f]))
    exact .mk _ σ (.refl _) leT ⟨rfl, rfl⟩
  · have e47 : (ByteArray.mk #[47]).size = 1 := rfl
    refine' wlk0
    ((try simp [*]); (try simp (discharger := omega) only [wrap_i64, dec_t, dec_f]))
    exact .mk _ σ (.refl _) leT ⟨by rw [ErT.in_, if_neg hc]; rfl, rfl⟩
/-- An error of the program: a code, or a fault about one. -/
inductive Er where
  | code (c : Int)
  | fault (at_ : Int) (field : ByteArray) (why : Er)
def Er.d : Er → D
  | .code c => .iface 68 (.i c)
  | .fault a f w => .iface 67 (.ptr [.i a, .s f, w.d])
def erD : Option Er → D
  | none => .v .nilIface
  | some e => e.d
/-- Its innermost code. -/
def Er.inner : Er → Int
  | .code c => c
  | .fault _ _ w => w.inner
/-- As it is told: from the outside in. -/
def Er.tell (at_ : Int) (path : ByteArray) : Er → Int × ByteArray
  | .code _ => (at_, path)
  | .fault a f w => w.tell (if 0 ≤ a ∧ at_ < 0 then a else at_) (if ¬ f = ⟨#[]⟩ ∨ a < 0 then path ++ (ByteArray.mk #[47] ++ f) else path)
def told : Option Er → ErT
  | none => ErT.none
  | some e => ⟨e.inner, (e.tell (-1) ByteArray.empty).1, (e.tell (-1) ByteArray.empty).2⟩
/-- A path that is told stands behind what is told ahead. -/
theorem Er.tell_path : ∀ (e : Er) (a : Int) (p : ByteArray), (e.tell a p).2 = p ++ (e.tell a ByteArray.empty).2
  | .code _, a, p => by simp [Er.tell]
  | .fault b f w, a, p => by
    simp only [Er.tell]
    by_cases hc : ¬ f = ⟨#[]⟩ ∨ b < 0
    · rw [if_pos hc, if_pos hc, Er.tell_path w _ (p ++ _), Er.tell_path w _ (ByteArray.empty ++ _)]
      simp [ByteArray.append_assoc]
    · rw [if_neg hc, if_neg hc]
      exact Er.tell_path w _ p
theorem told_in (f : ByteArray) (e : Er) (h : ¬ e.inner = 0) : told (some (.fault (-1) f e)) = ErT.in_ f (told (some e)) := by
  have h2 : ErT.in_ f (told (some e)) = ⟨e.inner, (e.tell (-1) ByteArray.empty).1, ByteArray.mk #[47] ++ f ++ (e.tell (-1) ByteArray.empty).2⟩ := if_neg h
  have h1 : told (some (.fault (-1) f e)) = ⟨e.inner, (e.tell (-1) (ByteArray.empty ++ (ByteArray.mk #[47] ++ f))).1, (e.tell (-1) (ByteArray.empty ++ (ByteArray.mk #[47] ++ f))).2⟩ := by
    simp only [told, Er.tell, Er.inner]
    rw [if_neg (by omega), if_pos (.inr (by omega))]
  have h3 : ∀ (e : Er) (a : Int) (p q : ByteArray), (e.tell a p).1 = (e.tell a q).1 := by
    intro e
    induction e with
    | code c => intro a p q; rfl
    | fault b f w ih => intro a p q; exact ih _ _ _
  rw [h1, h2, Er.tell_path, h3 e (-1) _ ByteArray.empty]
  simp
end Go.Proofs.YtcmingndbhldgaaDoor
/-
  errors.As, errors.Is at a chain of faults about a code.
-/
namespace Go.Proofs.YtcmingndbhldgaaDoor
open Go.RowKit Go.Extern.Stop Go.Stop Go.Extern
set_option maxRecDepth 100000
set_option linter.unusedVariables false
set_option linter.unusedSimpArgs false

theorem hasUnwrap_fault (p : Option Addr) (w : World) : (Instr.typeAssert (.iface 67 (.pointer p)) 29 129 true).run Tryd.prog w = .ok (.tuple #[.iface 67 (.pointer p), .bool true]) w := by kernel_rfl
theorem method_unwrap (p : Value) (w : World) : (Go.method 272 67 p "Unwrap").run Tryd.prog w = .ok (90, p) w := by kernel_rfl
def Er.depth : Er → Nat
  | .code _ => 0
  | .fault _ _ w => w.depth + 1
/-- What lies in a world as G has it. -/
def Holds (w : World) (G : Gh) : Prop := ∀ b o v, G b o = some v → w.cell? ⟨b, o, none⟩ = some v
theorem Er.d_iface' (e : Er) : ∃ t x, e.d = .iface t x := by cases e <;> exact ⟨_, _, rfl⟩
theorem er_code {G : Gh} {v : Value} {c : Int} (h : Rep G v (Er.code c).d) : v = .iface 68 (.int .i64 c) := by
  rw [Er.d] at h
  cases h with
  | iface _ x _ hr => rw [hr.v_inv]
theorem er_fault {G : Gh} {v : Value} {a : Int} {f : ByteArray} {e : Er} (h : Rep G v (Er.fault a f e).d) : ∃ b o x, v = .iface 67 (.pointer (some ⟨b, o, none⟩)) ∧ G b o = some (.int .i64 a) ∧ G b (o + 1) = some (.string f) ∧ G b (o + 2) = some x ∧ Rep G x e.d := by
  rw [Er.d] at h
  cases h with
  | iface _ x _ hr =>
    cases hr with
    | ptr ad _ vals hs hcell hrep =>
      obtain ⟨b, o, sp⟩ := ad
      simp only at hs
      subst hs
      have h0 := hrep 0 _ rfl
      have h1 := hrep 1 _ rfl
      have h2 := hrep 2 _ rfl
      have c0 := hcell 0 (by simp)
      have c1 := hcell 1 (by simp)
      have c2 := hcell 2 (by simp)
      rw [h0.v_inv] at c0
      rw [h1.v_inv] at c1
      exact ⟨b, o, _, rfl, c0, c1, c2, h2⟩
def clen (w : World) : Nat → Value → Nat
  | 0, _ => 0
  | n + 1, .iface _ (.pointer (some a)) => match w.cell? ⟨a.block, a.off + 2, none⟩ with
    | some x => clen w n x + 1
    | none => 0
  | _ + 1, _ => 0
theorem clen_er {w : World} {G : Gh} (hw : Holds w G) : ∀ (n : Nat) (e : Er) (v : Value), Rep G v e.d → e.depth ≤ n → clen w n v = e.depth
  | 0, .code c, v, h, _ => rfl
  | 0, .fault a f e, v, h, hn => by rw [Er.depth] at hn; omega
  | n + 1, .code c, v, h, _ => by rw [er_code h]; rfl
  | n + 1, .fault a f e, v, h, hn => by
    obtain ⟨b, o, x, rfl, _, _, h2, hx⟩ := er_fault h
    rw [Er.depth] at hn
    rw [clen]
    simp only [hw _ _ _ h2]
    rw [clen_er hw n e x hx (by omega), Er.depth]
theorem noAssignC_fault (w : World) : (ReflectliteType.relation "AssignableTo" ReflectliteType.assignableTo #[.agg #[.pointer (some ⟨2, 67, none⟩)], .iface 121 (.agg #[.pointer (some ⟨2, 68, none⟩)])]).run Tryd.prog w = .ok (.bool false) w := by kernel_rfl
theorem noAs_fault (v : Value) (w : World) : (Instr.typeAssert (.iface 67 v) 29 126 true).run Tryd.prog w = .ok (.tuple #[.nilIface, .bool false]) w := run_typeAssert_lacksB Tryd.underlying126 (by kernel_rfl) (by kernel_rfl) v _ w
set_option maxHeartbeats 4000000 in
theorem unwrap_cell (b o : Nat) (why : Value) (w : World) (c2 : w.cell? ⟨b, o + 2, none⟩ = some why) :
    Calls Tryd.prog 90 #[.pointer (some ⟨b, o, none⟩)] w fun ev w' => ev = .returned why ∧ w = w' := by
  go_enter Tryd.func90, Tryd.ntmps90
  go_wp2
  go_ret
  exact ⟨rfl, rfl⟩
theorem er_iface {G : Gh} {v : Value} {e : Er} (h : Rep G v e.d) : ∃ t x, v = .iface t x := by
  cases e with
  | code c => exact ⟨_, _, er_code h⟩
  | fault a f e => obtain ⟨b, o, x, rfl, _⟩ := er_fault h; exact ⟨_, _, rfl⟩
set_option maxHeartbeats 16000000 in
theorem as_code_chain (G : Gh) (e : Er) (v : Value) (t : Addr) (old : Value) (w : World) (hw : Holds w G) (hv : Rep G v e.d) (hg : ErrT w) (ht0 : w.cell? t = some old) (hf0 : w.frozen? t = false) :
    Calls Tryd.prog 22 #[v, .iface 79 (.pointer (some t))] w fun ev w' => ev = .returned (.bool true) ∧ w' = ((((w.alloc (.cells #[.pointer (some t)] 79)).alloc (.cells #[.pointer (some ⟨2, 79, none⟩), .pointer (some ⟨w.heap.size, 0, none⟩), .int .u64 150] 98)).alloc (.cells #[.pointer (some ⟨2, 79, none⟩), .pointer (some ⟨w.heap.size, 0, none⟩), .int .u64 150] 98)).alloc (.cells #[.int .i64 e.inner] 68)).setCell t (.int .i64 e.inner) := by
  obtain ⟨N, hN⟩ : ∃ N, N = e.depth := ⟨_, rfl⟩
  have HV := Lib.hid hv
  have HW := Lib.hid hw
  have HN := Lib.hid hN
  obtain ⟨c, hc⟩ : ∃ c, c = e.inner := ⟨_, rfl⟩
  rw [← hc]
  have HC := Lib.hid hc
  clear hN hw hc
  have hVO := @run_callFunc_extern Tryd.prog 39 _ (fun args => ReflectliteValue.unpack (args.getD 0 (.tuple #[]))) Tryd.func39 (by kernel_rfl) (by kernel_rfl) (by kernel_rfl) (by kernel_rfl)
  have hVT := @run_callFunc_extern Tryd.prog 40 _ (ReflectliteValue.methodAny (ReflectliteValue.valueError "reflectlite.Value.Type" 0) (fun t _ _ _ => ReflectliteType.toType t)) Tryd.func40 (by kernel_rfl) (by kernel_rfl) (by kernel_rfl) (by kernel_rfl)
  have hVN := @run_callFunc_extern Tryd.prog 41 _ (ReflectliteValue.method (ReflectliteValue.valueError "reflectlite.Value.IsNil" 0) ReflectliteValue.isNil) Tryd.func41 (by kernel_rfl) (by kernel_rfl) (by kernel_rfl) (by kernel_rfl)
  have hK := @run_callFunc_extern Tryd.prog 85 _ (ReflectliteType.abiMethod fun t => do pure (.int .u8 (← Rtype.kind t))) Tryd.func85 (by kernel_rfl) (by kernel_rfl) (by kernel_rfl) (by kernel_rfl)
  have hE := @run_callFunc_extern Tryd.prog 98 _ (ReflectliteType.method ReflectliteType.elem) Tryd.func98 (by kernel_rfl) (by kernel_rfl) (by kernel_rfl) (by kernel_rfl)
  have hI := @run_callFunc_extern Tryd.prog 99 _ (ReflectliteType.relation "Implements" ReflectliteType.implements_) Tryd.func99 (by kernel_rfl) (by kernel_rfl) (by kernel_rfl) (by kernel_rfl)
  have hT := @run_callFunc_extern Tryd.prog 55 _ ReflectliteType.typeOf Tryd.func55 (by kernel_rfl) (by kernel_rfl) (by kernel_rfl) (by kernel_rfl)
  have hA := @run_callFunc_extern Tryd.prog 96 _ (ReflectliteType.relation "AssignableTo" ReflectliteType.assignableTo) Tryd.func96 (by kernel_rfl) (by kernel_rfl) (by kernel_rfl) (by kernel_rfl)
  have hVE := @run_callFunc_extern Tryd.prog 56 _ (ReflectliteValue.method (ReflectliteValue.valueError "reflectlite.Value.Elem" 0) ReflectliteValue.elem) Tryd.func56 (by kernel_rfl) (by kernel_rfl) (by kernel_rfl) (by kernel_rfl)
  have hVS := @run_callFunc_extern Tryd.prog 57 _ ReflectliteValue.set Tryd.func57 (by kernel_rfl) (by kernel_rfl) (by kernel_rfl) (by kernel_rfl)
  have mK := method_kind
  have mE := method_elem
  have mI := method_implements
  have mA := method_assignable
  have vP := valueOf_code
  have tP := type_code
  have kP := kind_code
  have kE := kindE_code
  have eP := elem_code
  have iE := implements_code
  have hlt := hg.lt
  have n8 := isNil_code ⟨w.heap.size, 0, none⟩ t ((w.alloc (.cells #[.pointer (some t)] 79)).alloc (.cells #[.pointer (some ⟨2, 79, none⟩), .pointer (some ⟨w.heap.size, 0, none⟩), .int .u64 150] 98)) (by simp)
  have hg2 : ((w.alloc (.cells #[.pointer (some t)] 79)).alloc (.cells #[.pointer (some ⟨2, 79, none⟩), .pointer (some ⟨w.heap.size, 0, none⟩), .int .u64 150] 98)).cell? ⟨0, 0, none⟩ = some (.iface 121 (.agg #[.pointer (some ⟨2, 29, none⟩)])) := by
    rw [World.cell?_alloc_lt _ _ ⟨0, 0, none⟩ (by simp), World.cell?_alloc_lt _ _ ⟨0, 0, none⟩ hlt]; exact hg
  have htl : t.block < w.heap.size := World.block_lt_of_cell? w t ht0
  have el := elemV_code ⟨w.heap.size, 0, none⟩ t (((w.alloc (.cells #[.pointer (some t)] 79)).alloc (.cells #[.pointer (some ⟨2, 79, none⟩), .pointer (some ⟨w.heap.size, 0, none⟩), .int .u64 150] 98)).alloc (.cells #[.pointer (some ⟨2, 79, none⟩), .pointer (some ⟨w.heap.size, 0, none⟩), .int .u64 150] 98)) (by rw [World.cell?_alloc_lt _ _ ⟨w.heap.size, 0, none⟩ (by simp; omega)]; simp)
  have st := set_code t ⟨w.heap.size + 1 + 1 + 1, 0, none⟩ c old ((((w.alloc (.cells #[.pointer (some t)] 79)).alloc (.cells #[.pointer (some ⟨2, 79, none⟩), .pointer (some ⟨w.heap.size, 0, none⟩), .int .u64 150] 98)).alloc (.cells #[.pointer (some ⟨2, 79, none⟩), .pointer (some ⟨w.heap.size, 0, none⟩), .int .u64 150] 98)).alloc (.cells #[.int .i64 c] 68))
    (by rw [World.cell?_alloc_at _ _ _ _ (by simp)]; rfl)
    (by rw [World.cell?_alloc_lt _ _ t (by simp; omega), World.cell?_alloc_lt _ _ t (by simp; omega), World.cell?_alloc_lt _ _ t (by simp; omega), World.cell?_alloc_lt _ _ t htl]; exact ht0)
    (by rw [World.frozen?_alloc_old _ _ t (by simp; omega), World.frozen?_alloc_old _ _ t (by simp; omega), World.frozen?_alloc_old _ _ t (by simp; omega), World.frozen?_alloc_old _ _ t (Nat.ne_of_lt htl)]; exact hf0)
  have HG := Lib.hid hg
  obtain ⟨ty, y, rfl⟩ := er_iface hv
  clear hg hv
  go_enter Tryd.func22, Tryd.ntmps22
  go_wp2
  have HW3 : Holds (((w.alloc (.cells #[.pointer (some t)] 79)).alloc (.cells #[.pointer (some ⟨2, 79, none⟩), .pointer (some ⟨w.heap.size, 0, none⟩), .int .u64 150] 98)).alloc (.cells #[.pointer (some ⟨2, 79, none⟩), .pointer (some ⟨w.heap.size, 0, none⟩), .int .u64 150] 98)) G := fun b o x hx => by
    have h0 := HW.out b o x hx
    have h1 := World.block_lt_of_cell? w _ h0
    simp only at h1
    rw [World.cell?_alloc_lt _ _ ⟨b, o, none⟩ (by simp; omega), World.cell?_alloc_lt _ _ ⟨b, o, none⟩ (by simp; omega), World.cell?_alloc_lt _ _ ⟨b, o, none⟩ h1]
    exact h0
  have HW3 := Lib.hid HW3
  go_loopw [0] (fun i wr => wr = (((w.alloc (.cells #[.pointer (some t)] 79)).alloc (.cells #[.pointer (some ⟨2, 79, none⟩), .pointer (some ⟨w.heap.size, 0, none⟩), .int .u64 150] 98)).alloc (.cells #[.pointer (some ⟨2, 79, none⟩), .pointer (some ⟨w.heap.size, 0, none⟩), .int .u64 150] 98)) ∧ ∃ e' : Er, Rep G i e'.d ∧ e'.inner = c ∧ e'.depth ≤ N) (fun i _ => clen (((w.alloc (.cells #[.pointer (some t)] 79)).alloc (.cells #[.pointer (some ⟨2, 79, none⟩), .pointer (some ⟨w.heap.size, 0, none⟩), .int .u64 150] 98)).alloc (.cells #[.pointer (some ⟨2, 79, none⟩), .pointer (some ⟨w.heap.size, 0, none⟩), .int .u64 150] 98)) N i)
  case atStart => exact ⟨rfl, e, HV.out, HC.out.symm, by rw [HN.out]; exact Nat.le_refl _⟩
  obtain ⟨hwr, e', hr, hi, hd⟩ := hrel
  have HI := Lib.hid hi
  have HD := Lib.hid hd
  clear hi hd
  subst hwr
  cases e' with
  | code c' =>
    have hv := er_code hr
    clear hr
    have hcc : c' = c := HI.out
    subst hcc
    subst hv
    have tO := typeOfE_code
    have aE := assign_code
    have vE := valueOfE_code
    go_wp2
    go_ret
    exact ⟨rfl, rfl⟩
  | fault a f e1 =>
    obtain ⟨bb, o, x, hv, hc0, hc1, hc2, hx⟩ := er_fault hr
    have HR := Lib.hid hr
    clear hr hc0 hc1
    subst hv
    have tO := typeOfE_fault
    have aE := noAssignC_fault
    have h1 := noAs_fault (.pointer (some ⟨bb, o, none⟩))
    have h2 := hasUnwrap_fault (some ⟨bb, o, none⟩)
    have mU := method_unwrap (.pointer (some ⟨bb, o, none⟩))
    have hu := unwrap_cell bb o x (((w.alloc (.cells #[.pointer (some t)] 79)).alloc (.cells #[.pointer (some ⟨2, 79, none⟩), .pointer (some ⟨w.heap.size, 0, none⟩), .int .u64 150] 98)).alloc (.cells #[.pointer (some ⟨2, 79, none⟩), .pointer (some ⟨w.heap.size, 0, none⟩), .int .u64 150] 98)) (HW3.out _ _ _ hc2)
    clear hc2
    have HX := Lib.hid hx
    obtain ⟨ty', y', rfl⟩ := er_iface hx
    clear hx
    go_wp2_with fail
    refine hu.mono ?_
    rintro ev w' ⟨rfl, rfl⟩
    clear hu aE h1 h2 mU tO
    go_wp2_with fail
    have k1 := clen_er HW3.out N (.fault a f e1) _ HR.out HD.out
    have k2 := clen_er HW3.out N e1 _ HX.out (by have := HD.out; rw [Er.depth] at this; omega)
    refine ⟨⟨trivial, e1, HX.out, ?_, ?_⟩, ?_⟩
    · rw [← HI.out]; rfl
    · have := HD.out; rw [Er.depth] at this; omega
    · rw [k1, k2, Er.depth]; omega
theorem as_code_chain' (G : Gh) (e : Er) (v : Value) (b : Nat) (old : Value) (w : World) (hw : Holds w G) (hv : Rep G v e.d) (hg : ErrT w) (hb : w.heap[b]? = some (.cells #[old] 68 (0, 0))) :
    Calls Tryd.prog 22 #[v, .iface 79 (.pointer (some ⟨b, 0, none⟩))] w fun ev w' => ev = .returned (.bool true) ∧ w'.heap[b]? = some (.cells #[.int .i64 e.inner] 68 (0, 0)) ∧ w.grownBy w' (some b) := by
  have hlt : b < w.heap.size := (Array.getElem?_eq_some_iff.1 hb).1
  refine (as_code_chain G e v ⟨b, 0, none⟩ old w hw hv hg (by simp [World.cell?, hb]) (by simp [World.frozen?, hb])).mono ?_
  rintro ev w' ⟨rfl, rfl⟩
  refine ⟨rfl, ?_, ⟨rfl, rfl, rfl, by simp; omega, fun k hk hne => ?_⟩⟩
  · have h4 : ((((w.alloc (.cells #[.pointer (some ⟨b, 0, none⟩)] 79)).alloc (.cells #[.pointer (some ⟨2, 79, none⟩), .pointer (some ⟨w.heap.size, 0, none⟩), .int .u64 150] 98)).alloc (.cells #[.pointer (some ⟨2, 79, none⟩), .pointer (some ⟨w.heap.size, 0, none⟩), .int .u64 150] 98)).alloc (.cells #[.int .i64 e.inner] 68)).heap[b]? = some (.cells #[old] 68 (0, 0)) := by
      rw [heap_alloc_old _ _ (by simp; omega), heap_alloc_old _ _ (by simp; omega), heap_alloc_old _ _ (by simp; omega), heap_alloc_old _ _ hlt]
      exact hb
    have := heap_setCell_same _ b 0 #[old] 68 (.int .i64 e.inner) h4
    simpa using this
  · rw [heap_setCell_other _ _ _ _ (fun e => hne (by rw [e])), heap_alloc_old _ _ (by simp; omega), heap_alloc_old _ _ (by simp; omega), heap_alloc_old _ _ (by simp; omega), heap_alloc_old _ _ hk]
theorem as_hit_fault' (p : Addr) (b : Nat) (old : Value) (w : World) (hg : ErrT w) (hb : w.heap[b]? = some (.cells #[old] 67 (0, 0))) :
    Calls Tryd.prog 22 #[.iface 67 (.pointer (some p)), .iface 80 (.pointer (some ⟨b, 0, none⟩))] w fun ev w' => ev = .returned (.bool true) ∧ w'.heap[b]? = some (.cells #[.pointer (some p)] 67 (0, 0)) ∧ w.grownBy w' (some b) := by
  have hlt : b < w.heap.size := (Array.getElem?_eq_some_iff.1 hb).1
  refine (as_hit_fault p ⟨b, 0, none⟩ old w hg (by simp [World.cell?, hb]) (by simp [World.frozen?, hb])).mono ?_
  rintro ev w' ⟨rfl, rfl⟩
  refine ⟨rfl, ?_, ⟨rfl, rfl, rfl, by simp; omega, fun k hk hne => ?_⟩⟩
  · have h4 : ((((w.alloc (.cells #[.pointer (some ⟨b, 0, none⟩)] 80)).alloc (.cells #[.pointer (some ⟨2, 80, none⟩), .pointer (some ⟨w.heap.size, 0, none⟩), .int .u64 150] 98)).alloc (.cells #[.pointer (some ⟨2, 80, none⟩), .pointer (some ⟨w.heap.size, 0, none⟩), .int .u64 150] 98)).alloc (.cells #[.pointer (some p)] 67)).heap[b]? = some (.cells #[old] 67 (0, 0)) := by
      rw [heap_alloc_old _ _ (by simp; omega), heap_alloc_old _ _ (by simp; omega), heap_alloc_old _ _ (by simp; omega), heap_alloc_old _ _ hlt]
      exact hb
    have := heap_setCell_same _ b 0 #[old] 67 (.pointer (some p)) h4
    simpa using this
  · rw [heap_setCell_other _ _ _ _ (fun e => hne (by rw [e])), heap_alloc_old _ _ (by simp; omega), heap_alloc_old _ _ (by simp; omega), heap_alloc_old _ _ (by simp; omega), heap_alloc_old _ _ hk]
theorem as_miss_fault' (c : Int) (b : Nat) (old : Value) (w : World) (hg : ErrT w) (hb : w.heap[b]? = some (.cells #[old] 67 (0, 0))) :
    Calls Tryd.prog 22 #[.iface 68 (.int .i64 c), .iface 80 (.pointer (some ⟨b, 0, none⟩))] w fun ev w' => ev = .returned (.bool false) ∧ Below w.heap.size w w' := by
  refine (as_miss_fault c ⟨b, 0, none⟩ old w hg (by simp [World.cell?, hb])).mono ?_
  rintro e w' ⟨rfl, rfl⟩
  refine ⟨rfl, ?_⟩
  refine Below.alloc (Below.alloc (Below.alloc (Below.refl _ _) (Nat.le_refl _) _) (by simp) _) (by simp; omega) _
end Go.Proofs.YtcmingndbhldgaaDoor
/-
  errors.As, errors.Is at errors, as they are reasoned about.
-/
namespace Go.Proofs.YtcmingndbhldgaaDoor
open Go.RowKit
set_option maxRecDepth 100000
set_option linter.unusedVariables false
set_option linter.unusedSimpArgs false

theorem Sim.holds {base w : World} {G : Gh} {σ : St} (h : Sim base w G σ) : Holds w G := fun b o v hv => (h.data b o v hv).1
theorem Sim.errT {base w : World} {G : Gh} {σ : St} (h : Sim base w G σ) : ErrT w := by
  have h1 := h.ok.errT
  unfold ErrT
  exact (h.below.cell (World.block_lt_of_cell? _ _ h1)).trans h1
theorem args2_inv {G : Gh} {vs : List Value} {d e : D} (h : RepL G vs [d, e]) : ∃ x y, vs = [x, y] ∧ Rep G x d ∧ Rep G y e := by
  obtain ⟨x, xs, rfl, hx, h⟩ := h.inv
  obtain ⟨y, ys, rfl, hy, h⟩ := h.inv
  rw [h.inv0]
  exact ⟨x, y, rfl, hx, hy⟩
theorem iface_inv {G : Gh} {v : Value} {t : TypeId} {y : Value} (h : Rep G v (.iface t (.v y))) : v = .iface t y := by
  cases h with
  | iface _ x _ hr => rw [hr.v_inv]
theorem box1_inv {base w : World} {G : Gh} {σ : St} (h : Sim base w G σ) {b : Nat} {T : TypeId} {d : D} (hb : σ.own b = some (.box T [d])) : base.heap.size ≤ b ∧ (∀ o, G b o = none) ∧ ∃ x, w.heap[b]? = some (.cells #[x] T (0, 0)) := by
  obtain ⟨h1, h2, vs, h3, h4, _⟩ := h.own b _ hb
  obtain ⟨x, xs, rfl, _, h5⟩ := h4.inv
  rw [h5.inv0] at h3
  exact ⟨h1, h2, x, h3⟩
theorem box1_put {base w w' : World} {G : Gh} {σ : St} (h : Sim base w G σ) {b : Nat} {T : TypeId} {d d' : D} {y : Value} (hb : σ.own b = some (.box T [d])) (hy : Rep G y d') (h1 : y.oneCell' = true) (hw : w'.heap[b]? = some (.cells #[y] T (0, 0))) (hg : w.grownBy w' (some b)) : Sim base w' G (σ.set b (some (.box T [d']))) := by
  obtain ⟨k1, k2, _⟩ := box1_inv h hb
  refine h.upd _ (h.below.grown hg h.below.size (fun k hk => by injection hk with hk; omega)) (fun k hk hne => hg.block k hk (fun e => hne (Option.some.inj e))) G.le_refl (fun _ _ _ => rfl) (fun o v hv => by rw [k2 o] at hv; cases hv) (fun z hz => ?_)
  injection hz with hz
  subst hz
  exact ⟨k1, k2, [y], hw, (RepL.nil G).cons hy, fun x hx => by rw [List.mem_singleton.1 hx]; exact h1⟩
theorem asCodeT (e : Er) (b : Nat) (d0 : D) (σ : St) (hσ : σ.own b = some (.box 68 [d0])) : Tri Tryd.prog 22 [e.d, .iface 79 (.at b 0)] σ fun d τ => d = .b true ∧ τ = σ.set b (some (.box 68 [.i e.inner])) := by
  intro base w G vs hS hA
  obtain ⟨v, t, rfl, hv, ht⟩ := args2_inv hA
  rw [iface_inv ht]
  obtain ⟨_, _, x, hb⟩ := box1_inv hS hσ
  refine (as_code_chain' G e v b x w hS.holds hv hS.errT hb).mono ?_
  rintro ev w' ⟨rfl, h1, h2⟩
  exact ⟨_, G, G.le_refl, box1_put hS hσ (.v _) rfl h1 h2, .inl ⟨_, _, rfl, .v _, rfl, rfl⟩⟩
theorem asFaultT (a : Int) (f : ByteArray) (e : Er) (b : Nat) (d0 : D) (σ : St) (hσ : σ.own b = some (.box 67 [d0])) : Tri Tryd.prog 22 [(Er.fault a f e).d, .iface 80 (.at b 0)] σ fun d τ => d = .b true ∧ τ = σ.set b (some (.box 67 [.ptr [.i a, .s f, e.d]])) := by
  intro base w G vs hS hA
  obtain ⟨v, t, rfl, hv, ht⟩ := args2_inv hA
  rw [iface_inv ht]
  obtain ⟨_, _, x, hb⟩ := box1_inv hS hσ
  rw [Er.d] at hv
  cases hv with
  | iface _ y _ hr =>
    obtain ⟨p, rfl⟩ : ∃ p, y = .pointer (some p) := by cases hr; exact ⟨_, rfl⟩
    refine (as_hit_fault' p b x w hS.errT hb).mono ?_
    rintro ev w' ⟨rfl, h1, h2⟩
    exact ⟨_, G, G.le_refl, box1_put hS hσ hr rfl h1 h2, .inl ⟨_, _, rfl, .v _, rfl, rfl⟩⟩
theorem asMissT (c : Int) (b : Nat) (d0 : D) (σ : St) (hσ : σ.own b = some (.box 67 [d0])) : Tri Tryd.prog 22 [(Er.code c).d, .iface 80 (.at b 0)] σ fun d τ => d = .b false ∧ τ = σ := by
  intro base w G vs hS hA
  obtain ⟨v, t, rfl, hv, ht⟩ := args2_inv hA
  rw [iface_inv ht, er_code hv]
  obtain ⟨_, _, x, hb⟩ := box1_inv hS hσ
  refine (as_miss_fault' c b x w hS.errT hb).mono ?_
  rintro ev w' ⟨rfl, h1⟩
  exact ⟨_, G, G.le_refl, hS.grow h1, .inl ⟨_, _, rfl, .v _, rfl, rfl⟩⟩
end Go.Proofs.YtcmingndbhldgaaDoor
