/- Part 2 of the proof of CardSearchFinds: Lb Lc Ld Le. -/
import Derived.Test.YtmpbofmhjjgccaaDoorSf1
import Derived.Laws.StructEq
/-
  Operations as they are reasoned about: what is owed ahead of each.
-/
namespace Go.Proofs.YtmpbofmhjjgccaaDoor
open Go.RowKit
set_option linter.unusedVariables false
set_option linter.unusedSimpArgs false

abbrev Fr := Nat → D
def ev (F : Fr) : Operand → D
  | .tmp t => F t
  | .const v => .v v
  | .global g => .v (.pointer (some ⟨g, 0, none⟩))
  | .func f => .fn (.func f) [] []
/-- A frame's slots. -/
structure FrRep (G : Gh) (a : Act) (n : Nat) (df : List Deferred) (F : Fr) : Prop where
  size : a.tmps.size = n
  defers : a.defers = df
  rep : ∀ t, Rep G (a.tmps.getD t undef) (F t)
theorem FrRep.mono {G G' : Gh} (hG : G.le G') {a : Act} {n : Nat} {df : List Deferred} {F : Fr} (h : FrRep G a n df F) : FrRep G' a n df F := ⟨h.size, h.defers, fun t => (h.rep t).mono hG⟩
theorem FrRep.ev {G : Gh} {a : Act} {n : Nat} {df : List Deferred} {F : Fr} (h : FrRep G a n df F) (x : Operand) : Rep G (a.eval x) (ev F x) := by
  cases x with
  | tmp t => exact h.rep t
  | const v => exact .v v
  | global g => exact .v _
  | func f => exact .fn (.func f) [] [] [] [] rfl (by simp) rfl (by simp)
theorem FrRep.put {G : Gh} {a : Act} {n : Nat} {df : List Deferred} {F : Fr} (h : FrRep G a n df F) {t : Nat} (ht : t < n) {v : Value} {d : D} (hr : Rep G v d) : FrRep G (a.put (some t) v) n df (upd F t d) := by
  refine ⟨by simp [Act.put, h.size], h.defers, fun k => ?_⟩
  simp only [Act.put, Array.getD_eq_getD_getElem?, Array.getElem?_setIfInBounds, upd]
  by_cases e : t = k
  · subst e
    rw [if_pos rfl, if_pos rfl, if_pos (by rw [h.size]; exact ht)]
    exact hr
  · rw [if_neg e, if_neg (fun e' => e e'.symm), ← Array.getD_eq_getD_getElem?]
    exact h.rep k
theorem FrRep.put0 {G : Gh} {a : Act} {n : Nat} {df : List Deferred} {F : Fr} (h : FrRep G a n df F) (v : Value) : FrRep G (a.put none v) n df F := h

/-- What is known of a type. -/
inductive Kd where
  | str | int (k : IntKind) | slice (e : TypeId) | strukt | iface (bare : Bool) | bool | map (k e : TypeId) | pointer (e : TypeId) | func | array (n : Nat) (e : TypeId) | other
structure LyI where
  agg : Bool
  size : Nat
  bytes : Nat
  zero : List Value
  fields : List (Nat × Nat × Bool)
  kd : Kd
  zv : Value
def kdOf : TypeDesc → Kd
  | .string => .str
  | .int k => .int k
  | .slice e => .slice e
  | .struct _ => .strukt
  | .interface ms => .iface ms.isEmpty
  | .bool => .bool
  | .map k e => .map k e
  | .pointer e => .pointer e
  | .func _ _ _ => .func
  | .array n e => .array n e
  | _ => .other
def aggOf : TypeDesc → Bool
  | .struct _ | .array _ _ => true
  | _ => false
def fieldOf (P : Program) (f : Field) : Option (Nat × Nat × Bool) :=
  match P.info? f.type, P.underlying f.type with
  | some i, some d => some (f.offset, i.size, aggOf d)
  | _, _ => none
def fieldsOf (P : Program) : TypeDesc → Option (List (Nat × Nat × Bool))
  | .struct fs => fs.toList.mapM (fieldOf P)
  | _ => some []
def layOf (P : Program) (t : TypeId) : Option LyI :=
  match P.info? t, P.underlying t with
  | some i, some d =>
    match i.zero, fieldsOf P d with
    | some z, some fl => if z.cells.toList.all (·.oneCell') && (z.cells.toList.length == i.size) then some ⟨aggOf d, i.size, i.bytes, z.cells.toList, fl, kdOf d, z⟩ else none
    | _, _ => none
  | _, _ => none
theorem layOf_inv {P : Program} {t : TypeId} {l : LyI} (h : layOf P t = some l) :
    ∃ i d z fl, P.info? t = some i ∧ P.underlying t = some d ∧ i.zero = some z ∧ fieldsOf P d = some fl ∧ (∀ x ∈ z.cells.toList, x.oneCell' = true) ∧ z.cells.toList.length = i.size ∧ l = ⟨aggOf d, i.size, i.bytes, z.cells.toList, fl, kdOf d, z⟩ := by
  unfold layOf at h
  cases hi : P.info? t with
  | none => simp [hi] at h
  | some i =>
    cases hd : P.underlying t with
    | none => simp [hi, hd] at h
    | some d =>
      cases hz : i.zero with
      | none => simp [hi, hd, hz] at h
      | some z =>
        cases hf : fieldsOf P d with
        | none => simp [hi, hd, hz, hf] at h
        | some fl =>
          simp only [hi, hd, hz, hf] at h
          split at h
          · rename_i h1
            injection h with h
            simp only [Bool.and_eq_true, List.all_eq_true, beq_iff_eq] at h1
            exact ⟨i, d, z, fl, rfl, rfl, hz, hf, h1.1, h1.2, h.symm⟩
          · cases h

/-- Where there is one. -/
def wo {α : Type} (o : Option α) (K : α → Prop) : Prop := match o with | some a => K a | none => False
theorem wo_inv {α : Type} {o : Option α} {K : α → Prop} (h : wo o K) : ∃ a, o = some a ∧ K a := by
  cases o with
  | none => exact h.elim
  | some a => exact ⟨a, rfl, h⟩
theorem wo_some {α : Type} (a : α) (K : α → Prop) : wo (some a) K = K a := rfl
def Kd.sl : Kd → Option TypeId
  | .slice e => some e
  | _ => none
theorem Kd.sl_inv {k : Kd} {e : TypeId} (h : k.sl = some e) : k = .slice e := by cases k <;> simp_all [Kd.sl]
def Kd.ifc : Kd → Bool
  | .iface _ => true
  | _ => false
theorem Kd.ifc_inv {k : Kd} (h : k.ifc = true) : ∃ b, k = .iface b := by cases k <;> simp_all [Kd.ifc]
def Kd.isStr : Kd → Bool | .str => true | _ => false
def Kd.isBool : Kd → Bool | .bool => true | _ => false
def Kd.isStrukt : Kd → Bool | .strukt => true | _ => false
def Kd.isPtr : Kd → Bool | .pointer _ => true | _ => false
def Kd.isMap : Kd → Option (TypeId × TypeId) | .map k e => some (k, e) | _ => none
def Kd.ints : Kd → Option IntKind | .int k => some k | _ => none
theorem Kd.str_inv {k : Kd} (h : k.isStr = true) : k = .str := by cases k <;> simp_all [Kd.isStr]
theorem Kd.bool_inv {k : Kd} (h : k.isBool = true) : k = .bool := by cases k <;> simp_all [Kd.isBool]
theorem Kd.strukt_inv {k : Kd} (h : k.isStrukt = true) : k = .strukt := by cases k <;> simp_all [Kd.isStrukt]
theorem Kd.ptr_inv {k : Kd} (h : k.isPtr = true) : ∃ e, k = .pointer e := by cases k <;> simp_all [Kd.isPtr]
theorem Kd.map_inv {k : Kd} {q : TypeId × TypeId} (h : k.isMap = some q) : k = .map q.1 q.2 := by cases k <;> simp_all [Kd.isMap]; subst h; exact ⟨rfl, rfl⟩
theorem Kd.ints_inv {k : Kd} {q : IntKind} (h : k.ints = some q) : k = .int q := by cases k <;> simp_all [Kd.ints]
/-- The cells of what is laid into a variable. -/
def D.cells : D → Option (List D)
  | .any | .tup _ | .v (.tuple _) => none
  | .v (.agg cs) => if cs.toList.all (·.oneCell') then some (cs.toList.map .v) else none
  | .agg cs => some cs
  | d => some [d]
def dput (cur : List D) (o : Nat) (cs : List D) : List D := cur.take o ++ cs ++ cur.drop (o + cs.length)
def aload (l : LyI) (cs : List D) (K : D → Prop) : Prop :=
  match l.agg with
  | true => l.size ≤ cs.length ∧ K (.agg (cs.take l.size))
  | false => match cs with | d :: _ => K d | [] => False
def abuild (fields : List (Nat × Nat × Bool)) : List (Nat × D) → List D → Option (List D)
  | [], cs => some cs
  | (k, d) :: rest, cs =>
    match fields[k]?, d.cells with
    | some (off, size, _), some xs => if xs.length = size ∧ off + size ≤ cs.length then abuild fields rest (dput cs off xs) else none
    | _, _ => none
def abuildS (sz : Nat) : Nat → List (Nat × D) → Option (List (List D))
  | _, [] => some []
  | k, (j, d) :: rest =>
    match d.cells with
    | some xs => if xs.length = sz ∧ j = k then (abuildS sz (k + 1) rest).map (xs :: ·) else none
    | none => none
/-- A list, of whatever form: may it be nil; may it grow; is it full; its elements. -/
def D.list : D → Option (Bool × Option (Nat × Nat) × Bool × Nat × List (List D))
  | .slice tip full sz ds => some (false, tip, full, sz, ds)
  | .lst full sz ds => some (true, none, full, sz, ds)
  | _ => none
/-- The elements of a list, of one's own, too. -/
def aelems (σ : St) (sz : Nat) : D → Option (List (List D))
  | .slice _ _ sz' ds => if sz' = sz then some ds else none
  | .lst _ sz' ds => if sz' = sz then some ds else none
  | .v (.slice none 0 0) => some []
  | .arr b sz' cap o n => match σ.own b with
    | some (.arr _ sz2 cap2 ds) => if sz' = sz ∧ sz2 = sz ∧ cap2 = cap ∧ o + n ≤ ds.length then some ((ds.drop o).take n) else none
    | _ => none
  | _ => none
def sfull (full : Bool) (n h : Nat) : Option Nat → Bool
  | some m => decide (m = h)
  | none => full && decide (h = n)
def aslice (nl : Bool) (tip : Option (Nat × Nat)) (full : Bool) (sz : Nat) (ds : List (List D)) (l h : Nat) (m : Option Nat) : D :=
  match nl with
  | false => .slice (if l = 0 ∧ m = none then (if h = ds.length then tip else none) else none) (sfull full ds.length h m) sz ((ds.take h).drop l)
  | true => .lst (sfull full ds.length h m) sz ((ds.take h).drop l)
def obound (F : Fr) (d : Nat) : Option Operand → Option Int
  | none => some d
  | some x => match ev F x with | .v (.int _ n) => some n | _ => none
/-- The bits of two numbers, taken together. -/
def bAnd (k : IntKind) (a b : Int) : Int := k.wrap (BitVec.ofInt k.bits a &&& BitVec.ofInt k.bits b).toNat
def bOr (k : IntKind) (a b : Int) : Int := k.wrap (BitVec.ofInt k.bits a ||| BitVec.ofInt k.bits b).toNat
def bXor (k : IntKind) (a b : Int) : Int := k.wrap (BitVec.ofInt k.bits a ^^^ BitVec.ofInt k.bits b).toNat
def ashift (op : BinOp) (k : IntKind) (a b : Int) (K : D → Prop) : Prop :=
  match op with
  | .shl => 0 ≤ b ∧ K (.v (.int k (k.wrap (a * 2 ^ (min b.toNat k.bits)))))
  | .shr => 0 ≤ b ∧ K (.v (.int k (a.fdiv (2 ^ (min b.toNat k.bits)))))
  | _ => False
def aint (op : BinOp) (k : IntKind) (a b : Int) (K : D → Prop) : Prop :=
  match op with
  | .add => K (.v (.int k (k.wrap (a + b))))
  | .sub => K (.v (.int k (k.wrap (a - b))))
  | .mul => K (.v (.int k (k.wrap (a * b))))
  | .quo => b ≠ 0 ∧ K (.v (.int k (k.wrap (a.tdiv b))))
  | .rem => b ≠ 0 ∧ K (.v (.int k (a.tmod b)))
  | .eql => K (.v (.bool (decide (a = b))))
  | .neq => K (.v (.bool (!decide (a = b))))
  | .lss => K (.v (.bool (decide (a < b))))
  | .leq => K (.v (.bool (decide (a ≤ b))))
  | .gtr => K (.v (.bool (decide (b < a))))
  | .geq => K (.v (.bool (decide (b ≤ a))))
  | .and => K (.v (.int k (bAnd k a b)))
  | .or => K (.v (.int k (bOr k a b)))
  | .xor => K (.v (.int k (bXor k a b)))
  | _ => False
def astr (op : BinOp) (a b : ByteArray) (K : D → Prop) : Prop :=
  match op with
  | .add => a.size + b.size ≤ 9223372036854775807 ∧ K (.v (.string (a ++ b)))
  | .eql => K (.v (.bool (decide (a = b))))
  | .neq => K (.v (.bool (!decide (a = b))))
  | .lss => K (.v (.bool (Op.bytesLess a.toList b.toList)))
  | .gtr => K (.v (.bool (!(Op.bytesLess a.toList b.toList || decide (a = b)))))
  | .leq => K (.v (.bool (Op.bytesLess a.toList b.toList || decide (a = b))))
  | .geq => K (.v (.bool (!Op.bytesLess a.toList b.toList)))
  | _ => False
def isLit : Operand → Bool | .const _ => true | _ => false
/-- What '==' says of two structs. -/
def AggEq (P : Program) (t : TypeId) (cs ds : List D) (r : Bool) : Prop :=
  ∃ vs us : List Value, cs = vs.map D.v ∧ ds = us.map D.v ∧ P.eqGuardType P.depth t = false ∧ ∀ w : World, (Op.equalIn 10000 t (.agg vs.toArray) (.agg us.toArray)).run P w = .ok r w
/-- '==' and '!=' of what is the same, or isn't. -/
def aeq (op : BinOp) (r : Bool) (K : D → Prop) : Prop := match op with | .eql => K (.v (.bool r)) | .neq => K (.v (.bool (!r))) | _ => False
def abin (P : Program) (op : BinOp) (t : TypeId) (lit : Bool) (x y : D) (K : D → Prop) : Prop :=
  match x, y with
  | .v (.int k a), .v (.int k' b) => (match op with | .shl | .shr => ashift op k a b K | _ => k = k' ∧ aint op k a b K)
  | .v (.string a), .v (.string b) => astr op a b K
  | .v .nilIface, .v .nilIface => lit = true ∧ (wo (layOf P t) fun l => l.kd.ifc = true) ∧ aeq op true K
  | .iface _ _, .v .nilIface => (wo (layOf P t) fun l => l.kd.ifc = true) ∧ aeq op false K
  | .iface t1 (.v (.int k a)), .iface t2 (.v (.int k' b)) => (wo (layOf P t) fun l => l.kd.ifc = true) ∧ ((t1 ≠ t2 ∧ aeq op false K) ∨ (t1 = t2 ∧ k = k' ∧ (wo (layOf P t1) fun l => l.kd.ints = some k) ∧ ((P.info? t1).map (·.comparable)) = some true ∧ aeq op (decide (a = b)) K))
  | .iface t1 _, .iface t2 _ => (wo (layOf P t) fun l => l.kd.ifc = true) ∧ t1 ≠ t2 ∧ aeq op false K
  | .v (.bool a), .v (.bool b) => (wo (layOf P t) fun l => l.kd.isBool = true) ∧ aeq op (a == b) K
  | .v (.pointer a), .v (.pointer none) => (wo (layOf P t) fun l => l.kd.isPtr = true) ∧ aeq op a.isNone K
  | .ptr _, .v (.pointer none) => (wo (layOf P t) fun l => l.kd.isPtr = true) ∧ aeq op false K
  | .v (.slice none 0 0), .v (.slice none 0 0) => (wo (layOf P t) fun l => l.kd.sl.isSome = true) ∧ aeq op true K
  | .slice _ _ _ _, .v (.slice none 0 0) => (wo (layOf P t) fun l => l.kd.sl.isSome = true) ∧ aeq op false K
  | .arr _ _ _ _ _, .v (.slice none 0 0) => (wo (layOf P t) fun l => l.kd.sl.isSome = true) ∧ aeq op false K
  | .lst _ _ (_ :: _), .v (.slice none 0 0) => (wo (layOf P t) fun l => l.kd.sl.isSome = true) ∧ aeq op false K
  | .lst _ _ [], .v (.slice none 0 0) => (wo (layOf P t) fun l => l.kd.sl.isSome = true) ∧ aeq op true K ∧ aeq op false K
  | .agg cs, .agg ds => ∃ r, AggEq P t cs ds r ∧ aeq op r K
  | _, _ => False

/-- A function that may be called. -/
def FnOk (P : Program) (f : FuncId) : Prop := ∃ fn, P.funcs[f]? = some fn ∧ (fn.name == "runtime.NumGoroutine") = false ∧ fn.body.isNone = false
theorem fnOk_of {P : Program} {f : FuncId} (h : ((P.funcs[f]?).map fun fn => !(fn.name == "runtime.NumGoroutine") && !fn.body.isNone) = some true) : FnOk P f := by
  cases hf : P.funcs[f]? with
  | none => simp [hf] at h
  | some fn =>
    simp only [hf, Option.map_some, Option.some.injEq, Bool.and_eq_true, Bool.not_eq_true'] at h
    exact ⟨fn, hf, h.1, h.2⟩
/-- What a call comes to: it hands back, or it panics. -/
inductive Out where
  | ret (d : D)
  | pan (v : Value)
/-- What a function does to what it is called with. -/
def TriX (P : Program) (f : FuncId) (ds : List D) (σ : St) (R : Out → St → Prop) : Prop :=
  ∀ (base w : World) (G : Gh) (vs : List Value), Sim base w G σ → RepL G vs ds → Calls P f vs.toArray w fun e w' => ∃ σ' G', G.le G' ∧ Sim base w' G' σ' ∧ ((∃ v d, e = .returned v ∧ Rep G' v d ∧ R (.ret d) σ') ∨ ∃ v, e = .panicked [{ v := v, recovered := false }] ∧ R (.pan v) σ')
/-- .. that never panics. -/
def retO (R : D → St → Prop) : Out → St → Prop
  | .ret d, τ => R d τ
  | .pan _, _ => False
def Tri (P : Program) (f : FuncId) (ds : List D) (σ : St) (R : D → St → Prop) : Prop := TriX P f ds σ (retO R)
theorem TriX.mono {P : Program} {f : FuncId} {ds : List D} {σ : St} {R R' : Out → St → Prop} (h : TriX P f ds σ R) (hr : ∀ o σ', R o σ' → R' o σ') : TriX P f ds σ R' :=
  fun base w G vs hS hA => (h base w G vs hS hA).mono fun e w' ⟨σ', G', h2, h3, h4⟩ => ⟨σ', G', h2, h3, h4.elim (fun ⟨v, d, a, b, c⟩ => .inl ⟨v, d, a, b, hr _ _ c⟩) (fun ⟨v, a, b⟩ => .inr ⟨v, a, hr _ _ b⟩)⟩
theorem Tri.mono {P : Program} {f : FuncId} {ds : List D} {σ : St} {R R' : D → St → Prop} (h : Tri P f ds σ R) (hr : ∀ d σ', R d σ' → R' d σ') : Tri P f ds σ R' := TriX.mono h fun o σ' ho => by
  cases o with
  | ret d => exact hr d σ' ho
  | pan v => exact ho
/-- What goes on behind a call. -/
def outK (K : D → St → Prop) (E : Value → St → Prop) : Out → St → Prop
  | .ret d, τ => K d τ
  | .pan v, τ => E v τ
theorem Tri.call {P : Program} {f : FuncId} {ds : List D} {σ : St} {R K : D → St → Prop} {E : Value → St → Prop} (h : Tri P f ds σ R) (hr : ∀ d σ', R d σ' → K d σ') : TriX P f ds σ (outK K E) := TriX.mono h fun o σ' ho => by
  cases o with
  | ret d => exact hr d σ' ho
  | pan v => exact ho.elim
theorem TriX.call {P : Program} {f : FuncId} {ds : List D} {σ : St} {R : Out → St → Prop} {K : D → St → Prop} {E : Value → St → Prop} (h : TriX P f ds σ R) (hr : ∀ d σ', R (.ret d) σ' → K d σ') (he : ∀ v σ', R (.pan v) σ' → E v σ') : TriX P f ds σ (outK K E) := TriX.mono h fun o σ' ho => by
  cases o with
  | ret d => exact hr d σ' ho
  | pan v => exact he v σ' ho

def D.isSl : D → Prop
  | .v (.slice none 0 0) => True
  | .arr _ _ _ _ _ => True
  | d => d.list.isSome = true
/-- What is owed at an append: behind it the list may grow. -/
def agrow (σ : St) (e : TypeId) (sz bytes : Nat) (old : List (List D)) (new : List (List D)) (σ1 : St) (K : D → St → Prop) : Prop :=
  0 < sz ∧ (old.length + new.length) * bytes ≤ 140737488355328 ∧ old.length + new.length ≤ 140737488355328 ∧
    ∀ b cap, Fresh σ1 b → old.length + new.length ≤ cap → K (.slice (some (b, cap)) false sz (old ++ new)) (σ1.set b (some (.tip e sz cap (old.length + new.length))))
/-- .. a list of one's own. -/
def agrowO (e : TypeId) (sz bytes : Nat) (all : List (List D)) (σ1 : St) (K : D → St → Prop) : Prop :=
  0 < sz ∧ all.length * bytes ≤ 140737488355328 ∧ all.length ≤ 140737488355328 ∧ ∀ b cap, Fresh σ1 b → all.length ≤ cap → K (.arr b sz cap 0 all.length) (σ1.set b (some (.arr e sz cap all)))
def aappend (σ : St) (e : TypeId) (sz bytes : Nat) (x y : D) (K : D → St → Prop) : Prop :=
  match x, aelems σ sz y with
  | .v (.slice none 0 0), some new => (new = [] → K (.v (.slice none 0 0)) σ) ∧ (new ≠ [] → (agrow σ e sz bytes [] new σ K ∨ agrowO e sz bytes new σ K))
  | .slice (some (b, cap)) _ sz'' old, some new => σ.own b = some (.tip e sz cap old.length) ∧ sz'' = sz ∧ agrow σ e sz bytes old new (σ.set b none) K
  | .slice none true sz'' old, some new => sz'' = sz ∧ (K (.slice none false sz (old ++ new)) σ ∧ 0 < sz ∧ (old.length + new.length) * bytes ≤ 140737488355328 ∧ old.length + new.length ≤ 140737488355328 ∨ new ≠ [] ∧ (agrow σ e sz bytes old new σ K ∨ agrowO e sz bytes (old ++ new) σ K) ∨ new = [] ∧ K (.slice none true sz'' old) σ)
  | .lst true sz'' old, some new => sz'' = sz ∧ (K (.lst false sz (old ++ new)) σ ∧ 0 < sz ∧ (old.length + new.length) * bytes ≤ 140737488355328 ∧ old.length + new.length ≤ 140737488355328 ∨ new ≠ [] ∧ (agrow σ e sz bytes old new σ K ∨ agrowO e sz bytes (old ++ new) σ K) ∨ new = [] ∧ K (.lst true sz'' old) σ)
  | .arr b sz'' cap 0 n, some new => match σ.own b with
    | some (.arr e' sz2 cap2 old) => e' = e ∧ sz'' = sz ∧ sz2 = sz ∧ cap2 = cap ∧ n ≤ old.length ∧ agrowO e sz bytes (old.take n ++ new) (σ.set b none) K
    | _ => False
  | d, some [] => d.isSl ∧ K d σ
  | _, _ => False
/-- Bytes, of a text. -/
def bytesD (s : ByteArray) : List (List D) := s.data.toList.map fun b => [.v (.int .u8 b.toNat)]
/-- A text, of bytes. -/
def textOf : List (List D) → Option (List UInt8)
  | [] => some []
  | [.v (.int .u8 n)] :: r => (textOf r).map (UInt8.ofNat n.toNat :: ·)
  | _ => none

def abuiltin (P : Program) (b : Builtin) (ts : List TypeId) (ty : TypeId) (σ : St) (K : D → St → Prop) (ds : List D) : Prop :=
  match b, ts, ds with
  | .len, [t], [.slice _ _ _ ds] => (wo (layOf P t) fun l => l.kd.sl.isSome = true) ∧ K (.v (.int .i64 ds.length)) σ
  | .len, [t], [.lst _ _ ds] => (wo (layOf P t) fun l => l.kd.sl.isSome = true) ∧ K (.v (.int .i64 ds.length)) σ
  | .len, [t], [.arr _ _ _ _ n] => (wo (layOf P t) fun l => l.kd.sl.isSome = true) ∧ K (.v (.int .i64 n)) σ
  | .len, [t], [.v (.slice none 0 0)] => (wo (layOf P t) fun l => l.kd.sl.isSome = true) ∧ K (.v (.int .i64 0)) σ
  | .len, [t], [.v (.string s)] => (wo (layOf P t) fun l => l.kd.isStr = true) ∧ K (.v (.int .i64 s.size)) σ
  | .len, [t], [.v (.map (some r))] => (wo (layOf P t) fun l => l.kd.isMap.isSome = true) ∧ match σ.own r with | some (.mp es) => K (.v (.int .i64 es.length)) σ | _ => False
  | .append, [t, t'], [x, y] => t = t' ∧ wo (layOf P t) fun l => wo l.kd.sl fun e => wo (layOf P e) fun le => aappend σ e le.size le.bytes x y K
  | .max, _, [.v (.int k a), .v (.int k' b)] => k = k' ∧ K (.v (.int k (max a b))) σ
  | .min, _, [.v (.int k a), .v (.int k' b)] => k = k' ∧ K (.v (.int k (min a b))) σ
  | _, _, _ => False
/-- A key among a map's. -/
def mfind (es : List (Value × D)) (s : ByteArray) : Option D :=
  match es with
  | [] => none
  | (.string k, d) :: r => if s = k then some d else mfind r s
  | _ :: _ => none
def mput (es : List (Value × D)) (s : ByteArray) (d : D) : List (Value × D) :=
  match es with
  | [] => [(.string s, d)]
  | (.string k, x) :: r => if s = k then (.string s, d) :: r else (.string k, x) :: mput r s d
  | y :: r => y :: mput r s d
def mkeys (es : List (Value × D)) : Prop := ∀ y ∈ es, ∃ s : ByteArray, y.1 = .string s
/-- What a variable of a type holds at first. -/
def azero (l : LyI) : D := match l.zv with | .agg cs => .agg (cs.toList.map .v) | v => .v v

def aop (P : Program) (ty : TypeId) (F : Fr) (σ : St) (K : D → St → Prop) (E : Value → St → Prop) : Op → Prop
  | .move x => K (ev F x) σ
  | .assign x => K (ev F x) σ
  | .pick c a b => match ev F c with | .v (.bool p) => K (if p then ev F a else ev F b) σ | _ => False
  | .alloc t => wo (layOf P t) fun l => ∀ b, Fresh σ b → K (.v (.pointer (some ⟨b, 0, none⟩))) (σ.set b (some (.box t (l.zero.map .v))))
  | .box t x => wo (ev F x).cells fun cs => ∀ b, Fresh σ b → K (.v (.pointer (some ⟨b, 0, none⟩))) (σ.set b (some (.box t cs)))
  | .build t parts => wo (layOf P t) fun l => l.agg = true ∧ l.kd.isStrukt = true ∧ wo (abuild l.fields (parts.toList.map fun x => (x.1, ev F x.2)) (l.zero.map .v)) fun cs => K (.agg cs) σ
  | .buildSlice t n parts => wo (layOf P t) fun l => wo l.kd.sl fun e => wo (layOf P e) fun le => 0 < le.size ∧ n * le.size ≤ 16777216 ∧ parts.size = n ∧ wo (abuildS le.size 0 (parts.toList.map fun x => (x.1, ev F x.2))) fun ds =>
      (K (.slice none true le.size ds) σ ∨ ∀ b, Fresh σ b → K (.arr b le.size n 0 n) (σ.set b (some (.arr e le.size n ds))))
  | .load t x => wo (layOf P t) fun l => match ev F x with
    | .ptr cs => aload l cs fun d => K d σ
    | .v (.pointer (some ⟨b, o, none⟩)) => match σ.own b with | some (.box _ cs) => aload l (cs.drop o) fun d => K d σ | _ => False
    | .aptr b sz i f => match σ.own b with | some (.arr _ sz' _ ds) => sz = sz' ∧ wo ds[i]? fun cs => aload l (cs.drop f) fun d => K d σ | _ => False
    | _ => False
  | .store t x y => wo (layOf P t) fun l => match ev F x with
    | .v (.pointer (some ⟨b, o, none⟩)) => match σ.own b with | some (.box T cs) => wo (ev F y).cells fun xs => xs.length = l.size ∧ o + xs.length ≤ cs.length ∧ K .any (σ.set b (some (.box T (dput cs o xs)))) | _ => False
    | .aptr b sz i f => match σ.own b with | some (.arr T sz' cap ds) => sz = sz' ∧ wo ds[i]? fun cs => wo (ev F y).cells fun xs => xs.length = l.size ∧ f + xs.length ≤ cs.length ∧ K .any (σ.set b (some (.arr T sz' cap (ds.set i (dput cs f xs))))) | _ => False
    | _ => False
  | .nilCheck x => match ev F x with
    | .ptr cs => K (.ptr cs) σ
    | .aptr b sz i f => K (.aptr b sz i f) σ
    | .v (.pointer (some a)) => K (.v (.pointer (some a))) σ
    | .fn (.func f) first caps => K (.fn (.func f) first caps) σ
    | _ => False
  | .binOp op t x y _ => abin P op t (isLit x || isLit y) (ev F x) (ev F y) fun d => K d σ
  | .unOp op _ x => match op, ev F x with
    | .not, .v (.bool b) => K (.v (.bool (!b))) σ
    | .neg, .v (.int k n) => K (.v (.int k (k.wrap (0 - n)))) σ
    | _, _ => False
  | .convert s t x => wo (layOf P s) fun ls => wo (layOf P t) fun lt => match ls.kd, lt.kd, ev F x with
    | .int _, .int k, .v (.int _ n) => K (.v (.int k (k.wrap n))) σ
    | .str, .str, .v (.string s) => K (.v (.string s)) σ
    | .slice e, .str, d => wo (layOf P e) fun le => le.kd.ints = some .u8 ∧ le.size = 1 ∧ wo (aelems σ 1 d) fun ds => wo (textOf ds) fun bs => K (.v (.string ⟨bs.toArray⟩)) σ
    | .str, .slice e, .v (.string s) => wo (layOf P e) fun le => le.kd.ints = some .u8 ∧ s.size ≤ 140737488355328 ∧ K (.slice none false 1 (bytesD s)) σ
    | _, _, _ => False
  | .makeInterface t x => (wo (layOf P t) fun l => l.kd.ifc = false) ∧ K (.iface t (ev F x)) σ
  | .makeFunc fn first caps => K (.fn fn (first.toList.map (ev F)) (caps.toList.map (ev F))) σ
  | .makeMap t r => r = none ∧ ∀ b, Fresh σ b → K (.v (.map (some b))) (σ.set b (some (.mp [])))
  | .makeSlice t x y => wo (layOf P t) fun l => wo l.kd.sl fun e => wo (layOf P e) fun le => match ev F x, ev F y with
    | .v (.int .i64 n), .v (.int .i64 c) => 0 < le.size ∧ 0 ≤ n ∧ n ≤ c ∧ c * le.bytes ≤ 140737488355328 ∧ c ≤ 140737488355328 ∧ ∀ b, Fresh σ b → K (.arr b le.size c.toNat 0 n.toNat) (σ.set b (some (.arr e le.size c.toNat (List.replicate n.toNat (le.zero.map .v)))))
    | _, _ => False
  | .fieldAddr s x f => wo (layOf P s) fun l => wo (l.fields[f]?) fun fo => fo.2.1 ≠ 0 ∧ match ev F x with
    | .ptr cs => K (.ptr (cs.drop fo.1)) σ
    | .v (.pointer (some ⟨b, o, none⟩)) => K (.v (.pointer (some ⟨b, o + fo.1, none⟩))) σ
    | .aptr b sz i o => K (.aptr b sz i (o + fo.1)) σ
    | _ => False
  | .field s x f => wo (layOf P s) fun l => wo (l.fields[f]?) fun fo => fo.2.1 ≠ 0 ∧ match ev F x with
    | .agg cs => if fo.2.2 then fo.1 + fo.2.1 ≤ cs.length ∧ K (.agg ((cs.drop fo.1).take fo.2.1)) σ else match cs.drop fo.1 with | d :: _ => K d σ | [] => False
    | _ => False
  | .indexAddr t x ix => wo (layOf P t) fun l => wo l.kd.sl fun e => wo (layOf P e) fun le => match ev F x, ev F ix with
    | .arr b sz cap o m, .v (.int _ n) => le.size = sz ∧ 0 ≤ n ∧ n < m ∧ K (.aptr b sz (o + n.toNat) 0) σ
    | .slice _ _ sz ds, .v (.int _ n) => le.size = sz ∧ 0 ≤ n ∧ n < ds.length ∧ K (.ptr (ds.getD n.toNat [])) σ
    | .lst _ sz ds, .v (.int _ n) => le.size = sz ∧ 0 ≤ n ∧ n < ds.length ∧ K (.ptr (ds.getD n.toNat [])) σ
    | _, _ => False
  | .index t x ix => wo (layOf P t) fun l => match l.kd, ev F x, ev F ix with
    | .str, .v (.string s), .v (.int _ n) => 0 ≤ n ∧ n < s.size ∧ K (.v (.int .u8 (s.data.toList.getD n.toNat 0).toNat)) σ
    | _, _, _ => False
  | .lookup t x ix ok => wo (layOf P t) fun l => wo l.kd.isMap fun ke => wo (layOf P ke.1) fun lk => wo (layOf P ke.2) fun le => lk.kd.isStr = true ∧ match ev F x, ev F ix with
    | .v (.map (some b)), .v (.string s) => match σ.own b with
      | some (.mp es) => mkeys es ∧ K (match ok, mfind es s with | true, some d => .tup [d, .b true] | true, none => .tup [azero le, .b false] | false, some d => d | false, none => azero le) σ
      | _ => False
    | _, _ => False
  | .mapUpdate t x k y => wo (layOf P t) fun l => wo l.kd.isMap fun ke => wo (layOf P ke.1) fun lk => lk.kd.isStr = true ∧ match ev F x, ev F k with
    | .v (.map (some b)), .v (.string s) => match σ.own b with
      | some (.mp es) => mkeys es ∧ K .any (σ.set b (some (.mp (mput es s (ev F y)))))
      | _ => False
    | _, _ => False
  | .mapEntry t x k => wo (layOf P t) fun l => wo l.kd.isMap fun ke => wo (layOf P ke.1) fun lk => wo (layOf P ke.2) fun le => lk.kd.isStr = true ∧ match ev F x, ev F k with
    | .v (.map (some b)), .v (.string s) => match σ.own b with
      | some (.mp es) => mkeys es ∧ ∀ stamp : Int, K (.tup [(mfind es s).getD (azero le), .v (.int .i64 stamp)]) (σ.set b (some (.mpo (mput es s ((mfind es s).getD (azero le))) s stamp)))
      | _ => False
    | _, _ => False
  | .entryStore t x st y => match ev F x, ev F st with
    | .v (.map (some b)), .v (.int .i64 n) => match σ.own b with
      | some (.mpo es s stamp) => n = stamp ∧ mkeys es ∧ K .any (σ.set b (some (.mp (mput es s (ev F y)))))
      | _ => False
    | _, _ => False
  | .slice t x lo hi mx => wo (layOf P t) fun l => match l.kd, ev F x with
    | .str, .v (.string s) => mx = none ∧ match obound F 0 lo, obound F s.size hi with
      | some a, some b => 0 ≤ a ∧ a ≤ b ∧ b ≤ s.size ∧ K (.v (.string (s.extract a.toNat b.toNat))) σ
      | _, _ => False
    | .slice e, .arr b sz cap o n => wo (layOf P e) fun le => le.size = sz ∧ match mx with
      | none => match obound F 0 lo, obound F n hi with
        | some p, some q => 0 ≤ p ∧ p ≤ q ∧ q ≤ n ∧ K (.arr b sz cap (o + p.toNat) (q.toNat - p.toNat)) σ
        | _, _ => False
      | some m => hi.isSome = true ∧ match obound F 0 lo, obound F n hi, ev F m with
        | some p, some q, .v (.int _ m) => 0 ≤ p ∧ p = q ∧ q ≤ m ∧ m ≤ n ∧ K (.slice none (decide (m = q)) sz []) σ
        | _, _, _ => False
    | .slice e, d => wo (layOf P e) fun le => match d.list, mx with
      | some (nl, tip, full, sz, ds), none => le.size = sz ∧ match obound F 0 lo, obound F ds.length hi with
        | some a, some b => 0 ≤ a ∧ a ≤ b ∧ b ≤ ds.length ∧ K (aslice nl tip full sz ds a.toNat b.toNat none) σ
        | _, _ => False
      | some (nl, tip, full, sz, ds), some m => le.size = sz ∧ hi.isSome = true ∧ match obound F 0 lo, obound F ds.length hi, ev F m with
        | some a, some b, .v (.int _ m) => 0 ≤ a ∧ a ≤ b ∧ b ≤ m ∧ m ≤ ds.length ∧ K (aslice nl tip full sz ds a.toNat b.toNat (some m.toNat)) σ
        | _, _, _ => False
      | none, _ => False
    | _, _ => False
  | .typeAssert x s t ok => wo (layOf P t) fun l => l.kd.ifc = false ∧ match ev F x, ok with
    | .iface u d, true => K (if u = t then .tup [d, .b true] else .tup [azero l, .b false]) σ
    | .iface u d, false => u = t ∧ K d σ
    | .v .nilIface, true => K (.tup [azero l, .b false]) σ
    | _, _ => False
  | .extract x k => match ev F x with
    | .tup ds => match ds[k]? with | some d => K d σ | none => False
    | _ => False
  | .panic x => match ev F x with
    | .iface t (.v v) => E (.iface t v) σ
    | .iface t (.agg cs) => ∃ vs : List Value, cs = vs.map D.v ∧ E (.iface t (.agg vs.toArray)) σ
    | .v (.iface t v) => E (.iface t v) σ
    | _ => False
  | .call c => match c.callee with
    | .value x => match ev F x with
      | .v (.func (.func f) fs cs) => fs = #[] ∧ cs = #[] ∧ FnOk P f ∧ TriX P f (c.args.toList.map (ev F)) σ (outK K E)
      | .fn (.func f) first caps => FnOk P f ∧ TriX P f (first ++ c.args.toList.map (ev F) ++ caps) σ (outK K E)
      | _ => False
    | .builtin b => abuiltin P b c.argTypes.toList ty σ K (c.args.toList.map (ev F))
    | _ => False
  | _ => False
end Go.Proofs.YtmpbofmhjjgccaaDoor
/-
  Operations as they are reasoned about: that is what they do.
-/
namespace Go.Proofs.YtmpbofmhjjgccaaDoor
open Go.RowKit
set_option linter.unusedVariables false
set_option linter.unusedSimpArgs false

section
variable {P : Program} {G : Gh} {x : Value} {d : D}
theorem Rep.int_inv {k : IntKind} {n : Int} (h : Rep G x (.v (.int k n))) : x = .int k n := h.v_inv
/-- A list that isn't empty is none that is nil. -/
theorem Rep.list_inv {nl : Bool} {tip : Option (Nat × Nat)} {full : Bool} {sz : Nat} {ds : List (List D)} (h : Rep G x d) (hd : d.list = some (nl, tip, full, sz, ds)) :
    (nl = true ∧ tip = none ∧ x = .slice none 0 0 ∧ ds = []) ∨ Rep G x (.slice tip full sz ds) := by
  cases h <;> simp only [D.list, Option.some.injEq, Prod.mk.injEq, reduceCtorEq] at hd
  case slice a c _ _ _ _ vals hs hc hfull hsz hcell hrep htip =>
    obtain ⟨rfl, rfl, rfl, rfl, rfl⟩ := hd
    exact .inr (.slice a c _ _ _ _ vals hs hc hfull hsz hcell hrep htip)
  case lst0 =>
    obtain ⟨rfl, rfl, rfl, rfl, rfl⟩ := hd
    exact .inl ⟨rfl, rfl, rfl, rfl⟩
  case lst h =>
    obtain ⟨rfl, rfl, rfl, rfl, rfl⟩ := hd
    exact .inr h
theorem Rep.nl_inv {tip : Option (Nat × Nat)} {full : Bool} {sz : Nat} {ds : List (List D)} (h : Rep G x d) (hd : d.list = some (false, tip, full, sz, ds)) : Rep G x (.slice tip full sz ds) := by
  rcases h.list_inv hd with ⟨h1, _⟩ | h
  · cases h1
  · exact h
/-- What is laid, cell by cell. -/
theorem D.cells_rep {cs : List D} (h : Rep G x d) (hc : d.cells = some cs) : RepL G x.cells.toList cs ∧ ∀ y ∈ x.cells.toList, y.oneCell' = true := by
  have one : ∀ (x : Value) (d : D), Rep G x d → x.cells = #[x] → x.oneCell' = true → RepL G x.cells.toList [d] ∧ ∀ y ∈ x.cells.toList, y.oneCell' = true := by
    intro x d h h1 h2
    rw [h1]
    exact ⟨(RepL.nil G).cons h, by simp [h2]⟩
  cases h with
  | any x => simp [D.cells] at hc
  | v y =>
    cases x <;> first
      | (simp only [D.cells, Option.some.injEq] at hc; subst hc; exact one _ _ (.v _) rfl rfl)
      | (simp [D.cells] at hc; done)
      | skip
    rename_i xs
    simp only [D.cells] at hc
    split at hc
    · rename_i hall
      injection hc with hc
      subst hc
      refine ⟨⟨by simp [Value.cells], fun k u e h1 h2 => ?_⟩, fun y hy => List.all_eq_true.1 hall y (by simpa [Value.cells] using hy)⟩
      rw [List.getElem?_map] at h2
      simp only [Value.cells] at h1
      rw [h1] at h2
      simp at h2
      subst h2
      exact .v u
    · cases hc
  | slice a c tip full sz ds vals hs hc' hfull hsz hcell hrep htip =>
    simp only [D.cells, Option.some.injEq] at hc; subst hc; exact one _ _ (.slice a c tip full sz ds vals hs hc' hfull hsz hcell hrep htip) rfl rfl
  | lst0 full sz => simp only [D.cells, Option.some.injEq] at hc; subst hc; exact one _ _ (.lst0 full sz) rfl rfl
  | lst x full sz ds h =>
    simp only [D.cells, Option.some.injEq] at hc; subst hc
    cases h with
    | slice a c tip full sz ds vals hs hc' hfull hsz hcell hrep htip => exact one _ _ (.lst _ _ _ _ (.slice a c none full sz ds vals hs hc' hfull hsz hcell hrep htip)) rfl rfl
  | ptr a cs' vals hs hcell hrep => simp only [D.cells, Option.some.injEq] at hc; subst hc; exact one _ _ (.ptr a cs' vals hs hcell hrep) rfl rfl
  | agg vs cs' hl h1 hrep =>
    simp only [D.cells, Option.some.injEq] at hc; subst hc
    exact ⟨⟨by simpa [Value.cells] using hl, by simpa [Value.cells] using hrep⟩, by simpa [Value.cells] using h1⟩
  | tup vs cs' hl hrep => simp [D.cells] at hc
  | fn f us vs first cs' hl1 hrep1 hl hrep => simp only [D.cells, Option.some.injEq] at hc; subst hc; exact one _ _ (.fn f us vs first cs' hl1 hrep1 hl hrep) rfl rfl
  | arr b off c sz cap o n h h0 hn => simp only [D.cells, Option.some.injEq] at hc; subst hc; exact one _ _ (.arr b off c sz cap o n h h0 hn) rfl rfl
  | aptr b sz i f => simp only [D.cells, Option.some.injEq] at hc; subst hc; exact one _ _ (.aptr b sz i f) rfl rfl
  | iface t y d' hrep => simp only [D.cells, Option.some.injEq] at hc; subst hc; exact one _ _ (.iface t y d' hrep) rfl rfl
theorem RepL.mapV (xs : List Value) : RepL G xs (xs.map .v) := by
  refine ⟨by simp, fun k u e h1 h2 => ?_⟩
  rw [List.getElem?_map, h1] at h2
  simp at h2
  subst h2
  exact .v u
theorem RepL.dput {vs xs : List Value} {cs ds : List D} (h : RepL G vs cs) (hx : RepL G xs ds) (o : Nat) : RepL G (vs.take o ++ xs ++ vs.drop (o + xs.length)) (dput cs o ds) := by
  refine ⟨?_, fun k u e h1 h2 => ?_⟩
  · simp [Proofs.YtmpbofmhjjgccaaDoor.dput, h.len, hx.len]
  · unfold Proofs.YtmpbofmhjjgccaaDoor.dput at h2
    have hl1 : (vs.take o).length = (cs.take o).length := by simp [h.len]
    by_cases h3 : k < (vs.take o ++ xs).length
    · rw [List.getElem?_append_left h3] at h1
      rw [List.getElem?_append_left (by simp only [List.length_append] at h3 ⊢; rw [← hx.len, ← hl1]; exact h3)] at h2
      by_cases h4 : k < (vs.take o).length
      · rw [List.getElem?_append_left h4, List.getElem?_take] at h1
        rw [List.getElem?_append_left (by rw [← hl1]; exact h4), List.getElem?_take] at h2
        have h4' : k < o := by simp at h4; omega
        rw [if_pos h4'] at h1 h2
        exact h.rep k u e h1 h2
      · rw [List.getElem?_append_right (by omega)] at h1
        rw [List.getElem?_append_right (by omega), ← hl1] at h2
        exact hx.rep _ u e h1 h2
    · rw [List.getElem?_append_right (by omega)] at h1
      have hl2 : (vs.take o ++ xs).length = (cs.take o ++ ds).length := by simp only [List.length_append]; rw [hl1, hx.len]
      rw [List.getElem?_append_right (by rw [← hl2]; omega), ← hl2] at h2
      rw [List.getElem?_drop] at h1 h2
      rw [← hx.len] at h2
      exact h.rep _ u e h1 h2
theorem one_dput {vs xs : List Value} (h : ∀ y ∈ vs, y.oneCell' = true) (hx : ∀ y ∈ xs, y.oneCell' = true) (o : Nat) : ∀ y ∈ vs.take o ++ xs ++ vs.drop (o + xs.length), y.oneCell' = true := by
  intro y hy
  simp only [List.mem_append] at hy
  rcases hy with (hy | hy) | hy
  · exact h y (List.mem_of_mem_take hy)
  · exact hx y hy
  · exact h y (List.mem_of_mem_drop hy)
theorem run_fieldAt {s : TypeId} {fs : Array Field} {fd : Field} {i : TypeInfo} {f b o : Nat} {w : World} (hu : P.underlying s = some (.struct fs)) (hf : fs[f]? = some fd) (hi : P.info? fd.type = some i) (hz : i.size ≠ 0) :
    (Instr.fieldAt s (.pointer (some ⟨b, o, none⟩)) f).run P w = .ok (.pointer (some ⟨b, o + fd.offset, none⟩)) w := by
  simp [Instr.fieldAt, run_underlying hu, hf, Instr.sureAddr, fieldPlace, sizeOf, typeInfo, hi, hz, addr_add]
theorem fieldsOf_get {fs : Array Field} {fl : List (Nat × Nat × Bool)} {f off size : Nat} {g : Bool} (h : fieldsOf P (.struct fs) = some fl) (hf : fl[f]? = some (off, size, g)) :
    ∃ fd i d, fs[f]? = some fd ∧ P.info? fd.type = some i ∧ P.underlying fd.type = some d ∧ off = fd.offset ∧ size = i.size ∧ g = aggOf d := by
  have key : ∀ (l : List Field) (fl : List (Nat × Nat × Bool)) (f : Nat), l.mapM (fieldOf P) = some fl → fl[f]? = some (off, size, g) → ∃ fd, l[f]? = some fd ∧ fieldOf P fd = some (off, size, g) := by
    intro l
    induction l with
    | nil => intro fl f h hf; simp at h; subst h; simp at hf
    | cons c l ih =>
      intro fl f h hf
      simp only [List.mapM_cons, Option.bind_eq_bind, Option.pure_def] at h
      cases hc : fieldOf P c with
      | none => simp [hc] at h
      | some y =>
        cases hr : l.mapM (fieldOf P) with
        | none => simp [hc, hr] at h
        | some ys =>
          simp [hc, hr] at h
          subst h
          cases f with
          | zero => simp at hf; subst hf; exact ⟨c, rfl, hc⟩
          | succ f => exact ih ys f hr (by simpa using hf)
  obtain ⟨fd, h1, h2⟩ := key fs.toList fl f h hf
  unfold fieldOf at h2
  cases hi : P.info? fd.type with
  | none => simp [hi] at h2
  | some i =>
    cases hd : P.underlying fd.type with
    | none => simp [hi, hd] at h2
    | some dd =>
      simp only [hi, hd, Option.some.injEq, Prod.mk.injEq] at h2
      exact ⟨fd, i, dd, by simpa using h1, hi, hd, h2.1.symm, h2.2.1.symm, h2.2.2.symm⟩
theorem fieldsOf_struct {d : TypeDesc} {fl : List (Nat × Nat × Bool)} {f : Nat} {y : Nat × Nat × Bool} (h : fieldsOf P d = some fl) (hf : fl[f]? = some y) : ∃ fs, d = .struct fs := by
  cases d <;> first
    | exact ⟨_, rfl⟩
    | (simp only [fieldsOf, Option.some.injEq] at h; subst h; simp at hf)
theorem run_loadVar_agg {t : TypeId} {dd : TypeDesc} {i : TypeInfo} (hu : P.underlying t = some dd) (hd : aggOf dd = true) (hi : P.info? t = some i) (b o : Nat) (cs : List Value) (hl : cs.length = i.size) (w : World)
    (hc : ∀ j v, cs[j]? = some v → w.cell? ⟨b, o + j, none⟩ = some v) : (loadVar t ⟨b, o, none⟩).run P w = .ok (.agg cs.toArray) w :=
  run_loadVar_at w b o t cs dd hc hu (by cases dd <;> simp_all [aggOf]) (by rw [hi, hl]; rfl)
theorem run_loadVar_one {t : TypeId} {dd : TypeDesc} (hu : P.underlying t = some dd) (hd : aggOf dd = false) {ad : Addr} {v : Value} {w : World} (hc : w.cell? ad = some v) : (loadVar t ad).run P w = .ok v w :=
  load_one hu (by cases dd <;> simp_all [aggOf]) hc
theorem run_storeVar_any {t : TypeId} {i : TypeInfo} (hi : P.info? t = some i) (b o : Nat) (T : TypeId) (cur : List Value) (v : Value) (hl : v.cells.toList.length = i.size) (w : World) (hg : w.heap[b]? = some (.cells cur.toArray T (0, 0)))
    (ho : o + v.cells.toList.length ≤ cur.length) (h1 : ∀ y ∈ v.cells.toList, y.oneCell' = true) :
    (storeVar t ⟨b, o, none⟩ v).run P w = .ok () (w.setRow b (cur.take o ++ v.cells.toList ++ cur.drop (o + v.cells.toList.length)).toArray) := by
  have := run_storeCells_at P b o T v.cells.toList 0 cur.toArray w hg (by simpa using ho) h1
  simp only [Nat.add_zero] at this
  have hs : v.cells.size = i.size := by simpa using hl
  simp [storeVar, sizeOf, typeInfo, hi, hs, this]
end
end Go.Proofs.YtmpbofmhjjgccaaDoor
/-
  Operations as they are reasoned about: each is sound.
-/
namespace Go.Proofs.YtmpbofmhjjgccaaDoor
open Go.RowKit
set_option linter.unusedVariables false
set_option linter.unusedSimpArgs false

/-- What is owed behind an operation. -/
def Nxt (base : World) (G : Gh) (a : Act) (dst : Option Tmp) (K : D → St → Prop) (next : Act → World → Prop) : Prop :=
  ∀ v w' G' d σ', G.le G' → Sim base w' G' σ' → Rep G' v d → K d σ' → next (a.put dst v) w'
section
variable {P : Program} {o : Oper} {a : Act} {F : Fr} {σ : St} {K : D → St → Prop} {n : Nat} {df : List Deferred} {E : Value → St → Prop} {base w : World} {G : Gh} {next : Act → World → Prop} {Q : Exit → Act → World → Prop}
theorem snd_val {v : Value} {d : D} (hS : Sim base w G σ) (hrun : (execOp a.eval o).run P w = .ok (.value v) w) (hr : Rep G v d) (hk : K d σ) (hK : Nxt base G a o.dst K next) : o.wp P a w next Q :=
  wp_runI v hrun (hK v w G d σ G.le_refl hS hr hk)

theorem snd_move {x : Operand} (ho : o.op = .move x) (h : K (ev F x) σ) (hS : Sim base w G σ) (hF : FrRep G a n df F) (hK : Nxt base G a o.dst K next) : o.wp P a w next Q :=
  snd_val hS (by unfold execOp; simp [ho]) (hF.ev x) h hK
theorem snd_assign {x : Operand} (ho : o.op = .assign x) (h : K (ev F x) σ) (hS : Sim base w G σ) (hF : FrRep G a n df F) (hK : Nxt base G a o.dst K next) : o.wp P a w next Q :=
  snd_val hS (by unfold execOp; simp [ho]) (hF.ev x) h hK
theorem snd_pick {c x y : Operand} (ho : o.op = .pick c x y) (h : aop P o.type F σ K E (.pick c x y)) (hS : Sim base w G σ) (hF : FrRep G a n df F) (hK : Nxt base G a o.dst K next) : o.wp P a w next Q := by
  simp only [aop] at h
  split at h
  · rename_i p hp
    have hc : a.eval c = .bool p := (hp ▸ hF.ev c).v_inv
    refine snd_val (v := if p then a.eval x else a.eval y) hS (by unfold execOp; simp [ho, hc, asBool]) ?_ h hK
    cases p
    · exact hF.ev y
    · exact hF.ev x
  · exact h.elim
theorem snd_alloc {t : TypeId} (ho : o.op = .alloc t) (h : aop P o.type F σ K E (.alloc t)) (hS : Sim base w G σ) (hF : FrRep G a n df F) (hK : Nxt base G a o.dst K next) : o.wp P a w next Q := by
  simp only [aop] at h
  replace h := wo_inv h
  obtain ⟨l, hl, hk⟩ := h
  obtain ⟨i, d, z, fl, hi, hd, hz, hfl, h1, h2, rfl⟩ := layOf_inv hl
  refine wp_allocI t ho hi hz (hK _ _ G _ _ G.le_refl ?_ (.v _) (hk w.heap.size (hS.fresh (Nat.le_refl _))))
  have := hS.allocBox t z.cells.toList (z.cells.toList.map .v) (.mapV _) h1
  rwa [Array.toArray_toList] at this
theorem snd_box {t : TypeId} {x : Operand} (ho : o.op = .box t x) (h : aop P o.type F σ K E (.box t x)) (hS : Sim base w G σ) (hF : FrRep G a n df F) (hK : Nxt base G a o.dst K next) : o.wp P a w next Q := by
  simp only [aop] at h
  replace h := wo_inv h
  obtain ⟨cs, hc, hk⟩ := h
  obtain ⟨h1, h2⟩ := D.cells_rep (hF.ev x) hc
  have hrun : (execOp a.eval o).run P w = .ok (.value (.pointer (some ⟨w.heap.size, 0, none⟩))) (w.alloc (.cells (a.eval x).cells t)) := by
    unfold execOp
    simp [ho, Instr.box, newVar, newRow]
  refine wp_runI _ hrun (hK _ _ G _ _ G.le_refl ?_ (.v _) (hk w.heap.size (hS.fresh (Nat.le_refl _))))
  have := hS.allocBox t _ cs h1 h2
  rwa [Array.toArray_toList] at this
theorem fill_dput {places : List (Nat × Nat)} {fl : List (Nat × Nat × Bool)} (hp : places = fl.map fun f => (f.1, f.2.1)) : ∀ (parts : List (Nat × Operand)) (zs : List Value) (cs cs' : List D), RepL G zs cs → (∀ y ∈ zs, y.oneCell' = true) → FrRep G a n df F →
    abuild fl (parts.map fun x => (x.1, ev F x.2)) cs = some cs' → ∃ vs : List Value, Instr.fill (places.toArray[·]?) zs.toArray (parts.map fun x => (x.1, a.eval x.2)) = some vs.toArray ∧ RepL G vs cs' ∧ ∀ y ∈ vs, y.oneCell' = true
  | [], zs, cs, cs', hz, h1, hF, h => by
    simp only [List.map_nil, abuild, Option.some.injEq] at h
    subst h
    exact ⟨zs, rfl, hz, h1⟩
  | (k, x) :: parts, zs, cs, cs', hz, h1, hF, h => by
    simp only [List.map_cons, abuild] at h
    split at h
    · rename_i off size g xs hf hx
      split at h
      · rename_i hc
        obtain ⟨hc1, hc2⟩ := hc
        obtain ⟨hr, hr1⟩ := D.cells_rep (hF.ev x) hx
        have hlen : (a.eval x).cells.toList.length = size := hr.len.trans hc1
        have hzl := hz.len
        obtain ⟨vs, hv, hv2⟩ := fill_dput hp parts _ _ cs' (hz.dput hr off) (one_dput h1 hr1 off) hF h
        refine ⟨vs, ?_, hv2⟩
        have hpl : places.toArray[k]? = some (off, size) := by
          rw [List.getElem?_toArray, hp, List.getElem?_map, hf]
          rfl
        have hfs := fold_set (a.eval x).cells.toList off zs.toArray (by simp only [List.size_toArray]; omega)
        simp only [List.map_cons, Instr.fill, hpl]
        have hsz : (a.eval x).cells.size = size := by simpa using hlen
        simp only [hsz, List.size_toArray]
        rw [if_neg (by simp; omega)]
        rw [← hv]
        congr 1
        rw [show (List.take off zs ++ (a.eval x).cells.toList ++ List.drop (off + (a.eval x).cells.toList.length) zs) = (List.take off zs.toArray.toList ++ (a.eval x).cells.toList ++ List.drop (off + (a.eval x).cells.toList.length) zs.toArray.toList) by simp]
        rw [← hfs]
        rw [← Array.foldl_toList, Array.toList_zipIdx]
        rw [List.zipIdx_eq_map_add (i := off), List.foldl_map]
      · cases h
    · cases h
theorem places_of {fs : List Field} {fl : List (Nat × Nat × Bool)} (h : fs.mapM (fieldOf P) = some fl) : fs.mapM (fun f => (P.info? f.type).map fun i => (f.offset, i.size)) = some (fl.map fun f => (f.1, f.2.1)) := by
  induction fs generalizing fl with
  | nil => simp at h; subst h; rfl
  | cons c fs ih =>
    simp only [List.mapM_cons, Option.bind_eq_bind, Option.pure_def] at h ⊢
    cases hc : fieldOf P c with
    | none => simp [hc] at h
    | some y =>
      cases hr : fs.mapM (fieldOf P) with
      | none => simp [hc, hr] at h
      | some ys =>
        simp [hc, hr] at h
        subst h
        have h2 := hc
        unfold fieldOf at h2
        cases hi : P.info? c.type with
        | none => simp [hi] at h2
        | some i =>
          cases hd : P.underlying c.type with
          | none => simp [hi, hd] at h2
          | some dd =>
            simp only [hi, hd, Option.some.injEq] at h2
            subst h2
            simp [ih hr]
theorem kd_struct {d : TypeDesc} (h : kdOf d = .strukt) : ∃ fs, d = .struct fs := by
  cases d <;> first | exact ⟨_, rfl⟩ | (simp [kdOf] at h)
theorem kd_slice {d : TypeDesc} {e : TypeId} (h : kdOf d = .slice e) : d = .slice e := by
  cases d <;> simp_all [kdOf]
theorem kd_str {d : TypeDesc} (h : kdOf d = .str) : d = .string := by
  cases d <;> simp_all [kdOf]
theorem kd_bool {d : TypeDesc} (h : kdOf d = .bool) : d = .bool := by
  cases d <;> simp_all [kdOf]
theorem kd_iface {d : TypeDesc} {b : Bool} (h : kdOf d = .iface b) : ∃ ms, d = .interface ms ∧ b = ms.isEmpty := by
  cases d <;> simp_all [kdOf]
theorem snd_build {t : TypeId} {parts : Array (Nat × Operand)} (ho : o.op = .build t parts) (h : aop P o.type F σ K E (.build t parts)) (hS : Sim base w G σ) (hF : FrRep G a n df F) (hK : Nxt base G a o.dst K next) : o.wp P a w next Q := by
  simp only [aop] at h
  replace h := wo_inv h
  obtain ⟨l, hl, hagg, hkd, h⟩ := h
  replace h := wo_inv h
  obtain ⟨cs, hb, hk⟩ := h
  replace hkd := Kd.strukt_inv hkd
  obtain ⟨i, d, z, fl, hi, hd, hz, hfl, h1, h2, rfl⟩ := layOf_inv hl
  obtain ⟨fs, rfl⟩ := kd_struct hkd
  obtain ⟨vs, hv, hv2, hv3⟩ := fill_dput (places := fl.map fun f => (f.1, f.2.1)) rfl parts.toList z.cells.toList _ cs (.mapV _) h1 hF hb
  have hbt : P.built t (parts.map fun (i, x) => (i, a.eval x)).toList = some vs.toArray := by
    unfold Program.built
    simp only [hi, hd, hz, places_of hfl]
    rw [← hv, Array.toList_map, Array.toArray_toList]
  refine wp_build t parts ho (by rw [hbt]; rfl) ?_
  rw [hbt]
  exact hK _ _ G _ _ G.le_refl hS (.agg vs cs hv2.len hv3 hv2.rep) hk
theorem fillS {sz : Nat} (hsz : 0 < sz) : ∀ (parts : List (Nat × Operand)) (k : Nat) (pre : List Value) (zs : List Value) (ds : List (List D)), pre.length = k * sz → zs.length = parts.length * sz → FrRep G a n df F →
    abuildS sz k (parts.map fun x => (x.1, ev F x.2)) = some ds → ∃ vs : List Value, Instr.fill (fun i => some (i * sz, sz)) (pre ++ zs).toArray (parts.map fun x => (x.1, a.eval x.2)) = some (pre ++ vs).toArray ∧ RepL G vs ds.flatten ∧ (∀ y ∈ vs, y.oneCell' = true) ∧ (∀ c ∈ ds, c.length = sz) ∧ ds.length = parts.length
  | [], k, pre, zs, ds, hp, hz, hF, h => by
    simp only [List.map_nil, abuildS, Option.some.injEq] at h
    subst h
    have : zs = [] := List.eq_nil_of_length_eq_zero (by simpa using hz)
    subst this
    exact ⟨[], rfl, RepL.nil G, by simp, by simp, rfl⟩
  | (j, x) :: parts, k, pre, zs, ds, hp, hz, hF, h => by
    simp only [List.map_cons, abuildS] at h
    split at h
    · rename_i xs hx
      split at h
      · rename_i hc
        obtain ⟨hc1, rfl⟩ := hc
        obtain ⟨ds', hds, rfl⟩ := Option.map_eq_some_iff.1 h
        obtain ⟨hr, hr1⟩ := D.cells_rep (hF.ev x) hx
        have hlen : (a.eval x).cells.toList.length = sz := hr.len.trans hc1
        have hzl : zs.length = parts.length * sz + sz := by rw [hz, List.length_cons, Nat.add_mul]; omega
        obtain ⟨vs, hv, hv2, hv3, hv4, hv5⟩ := fillS hsz parts (j + 1) (pre ++ (a.eval x).cells.toList) (zs.drop sz) ds' (by rw [List.length_append, hp, hlen, Nat.add_mul]; omega) (by rw [List.length_drop]; omega) hF hds
        refine ⟨(a.eval x).cells.toList ++ vs, ?_, ⟨?_, ?_⟩, ?_, ?_, by simp [hv5]⟩
        · rw [← List.append_assoc, ← hv]
          have hfs := fold_set (a.eval x).cells.toList (j * sz) (pre ++ zs).toArray (by simp only [List.size_toArray, List.length_append]; omega)
          simp only [List.map_cons, Instr.fill]
          have hsz' : (a.eval x).cells.size = sz := by simpa using hlen
          simp only [hsz', List.size_toArray]
          rw [if_neg (by simp; omega)]
          congr 1
          have e1 : (pre ++ (a.eval x).cells.toList ++ zs.drop sz) = (List.take (j * sz) (pre ++ zs).toArray.toList ++ (a.eval x).cells.toList ++ List.drop (j * sz + (a.eval x).cells.toList.length) (pre ++ zs).toArray.toList) := by
            rw [hlen]
            simp only
            rw [List.take_append_of_le_length (by omega), List.take_of_length_le (by omega), List.drop_append, List.drop_eq_nil_of_le (i := j * sz + sz) (by omega), List.nil_append, hp]
            congr 2
            omega
          rw [e1, ← hfs, ← Array.foldl_toList, Array.toList_zipIdx, List.zipIdx_eq_map_add (i := j * sz), List.foldl_map]
        · rw [List.flatten_cons, List.length_append, List.length_append, hr.len, hv2.len]
        · intro q u e h1 h2
          rw [List.flatten_cons] at h2
          by_cases hq : q < (a.eval x).cells.toList.length
          · rw [List.getElem?_append_left hq] at h1
            rw [List.getElem?_append_left (by rw [← hr.len]; exact hq)] at h2
            exact hr.rep q u e h1 h2
          · rw [List.getElem?_append_right (by omega)] at h1
            rw [List.getElem?_append_right (by rw [← hr.len]; omega), ← hr.len] at h2
            exact hv2.rep _ u e h1 h2
        · intro y hy
          rcases List.mem_append.1 hy with hy | hy
          · exact hr1 y hy
          · exact hv3 y hy
        · intro c hc
          rcases List.mem_cons.1 hc with rfl | hc
          · exact hc1
          · exact hv4 c hc
      · cases h
    · cases h
theorem snd_buildSlice {t : TypeId} {m : Nat} {parts : Array (Nat × Operand)} (ho : o.op = .buildSlice t m parts) (h : aop P o.type F σ K E (.buildSlice t m parts)) (hS : Sim base w G σ) (hF : FrRep G a n df F) (hK : Nxt base G a o.dst K next) : o.wp P a w next Q := by
  simp only [aop] at h
  replace h := wo_inv h
  obtain ⟨l, hl, h⟩ := h
  replace h := wo_inv h
  obtain ⟨e, hkd, h⟩ := h
  replace h := wo_inv h
  obtain ⟨le, hle, hpos, hbig, hpn, h⟩ := h
  replace h := wo_inv h
  obtain ⟨ds, hb, hk⟩ := h
  replace hkd := Kd.sl_inv hkd
  obtain ⟨i, d, z, fl, hi, hd, hz, hfl, h1, h2, rfl⟩ := layOf_inv hl
  obtain ⟨i', d', z', fl', hi', hd', hz', hfl', h1', h2', rfl⟩ := layOf_inv hle
  have hd2 := kd_slice hkd
  subst hd2
  have hpos : 0 < i'.size := hpos
  have hbig : m * i'.size ≤ 16777216 := hbig
  have hb : abuildS i'.size 0 (parts.toList.map fun x => (x.1, ev F x.2)) = some ds := hb
  have hzl : ((Array.range (m * i'.size)).map (z'.cells[· % z'.cells.size]!)).toList.length = parts.toList.length * i'.size := by simp [hpn]
  obtain ⟨vs, hv, hv2, hv3, hv4, hv5⟩ := fillS hpos parts.toList 0 [] ((Array.range (m * i'.size)).map (z'.cells[· % z'.cells.size]!)).toList ds (by simp) hzl hF hb
  have hdl : ds.length = m := by rw [hv5]; simpa using hpn
  have hfill : Instr.fill (fun i => some (i * i'.size, i'.size)) ((Array.range (m * i'.size)).map (z'.cells[· % z'.cells.size]!)) (parts.map fun (i, x) => (i, a.eval x)).toList = some vs.toArray := by
    rw [Array.toList_map (xs := parts)]
    rw [List.nil_append, Array.toArray_toList] at hv
    exact hv
  have hvl : vs.length = ds.length * i'.size := hv2.len.trans (flat_len ds hv4)
  have hrun : (execOp a.eval o).run P w = .ok (.value (.slice (some ⟨w.heap.size, 0, none⟩) m m)) (w.alloc (.cells vs.toArray e)) := by
    by_cases hm : m = 0
    · subst hm
      have hp0 : parts = #[] := Array.eq_empty_of_size_eq_zero hpn
      subst hp0
      have hv0 : vs = [] := List.eq_nil_of_length_eq_zero (by rw [hvl, hdl]; omega)
      subst hv0
      have hr : (Instr.buildSlice t 0 #[]).run P w = .ok (.slice (some ⟨w.heap.size, 0, none⟩) 0 0) (w.alloc (.cells #[] e)) := by
        simp [Instr.buildSlice, run_underlying hd, sizeOf, typeInfo, hi', Instr.fill, newRow]
        have e0 : Array.map (fun _ : Nat => (default : Value)) (Array.range 0) = #[] := Array.eq_empty_of_size_eq_zero (by simp)
        rw [e0]
      unfold execOp
      simp only [ho, Sem.run_bind]
      simp only [List.map_toArray, List.map_nil, hr, Result.andThen_ok, Sem.run_pure]
    · have hr := run_buildSlice (P := P) w t e m (parts.map fun (i, x) => (i, a.eval x)) vs.toArray i' z' hd hi' hz' (by omega) (by have := Nat.mul_pos (Nat.pos_of_ne_zero hm) hpos; omega) hfill
      unfold execOp
      simp only [ho, Sem.run_bind, hr, Result.andThen_ok, Sem.run_pure]
  have hB := ((Below.refl w.heap.size w).alloc (Nat.le_refl _) (.cells vs.toArray e))
  rcases hk with hk | hk
  · have hS' := hS.newData (w' := w.alloc (.cells vs.toArray e)) hB e vs [] (by rw [List.append_nil]; exact heap_alloc_new w _) hv3
    have hle' := hS.le_add vs (Nat.le_refl w.heap.size)
    refine wp_runI _ hrun (hK _ _ _ _ _ hle' hS' ?_ hk)
    rw [← hdl]
    refine Rep.slice ⟨w.heap.size, 0, none⟩ ds.length none true i'.size ds (fun k => vs.getD k undef) (fun _ => rfl) (Nat.le_refl _) (fun _ => rfl) hv4 ?_ ?_ (by simp)
    · intro k hk
      have hk' : k < vs.length := by rw [hvl]; exact hk
      simp only [Gh.add, if_true, Nat.zero_add]
      rw [List.getElem?_eq_getElem hk', List.getD_eq_getElem?_getD, List.getElem?_eq_getElem hk']
      rfl
    · intro k dd hd
      have hk' : k < vs.length := by rw [hv2.len]; exact (List.getElem?_eq_some_iff.1 hd).1
      have := hv2.rep k vs[k] dd (List.getElem?_eq_getElem hk') hd
      rw [List.getD_eq_getElem?_getD, List.getElem?_eq_getElem hk']
      exact this.mono hle'
  · have hm : m ≤ maxLen := by
      have := Nat.le_mul_of_pos_right m hpos
      unfold maxLen; omega
    have hS' := hS.new (w' := w.alloc (.cells vs.toArray e)) hB (.arr e i'.size m ds) ⟨fun o => hS.fresh_data (Nat.le_refl _) o, hm, by omega, hv4, vs, [], by rw [List.append_nil]; exact heap_alloc_new w _, by rw [List.append_nil, hvl, hdl], hv2, hv3⟩
    exact wp_runI _ hrun (hK _ _ _ _ _ G.le_refl hS' (.arr _ _ _ _ _ _ _ (.inr (by simp)) (fun _ => ⟨rfl, rfl⟩) (Nat.le_refl _)) (hk _ (hS.fresh (Nat.le_refl _))))
end
end Go.Proofs.YtmpbofmhjjgccaaDoor
/-
  Operations as they are reasoned about: reads, stores, numbers, texts.
-/
namespace Go.Proofs.YtmpbofmhjjgccaaDoor
open Go.RowKit
set_option linter.unusedVariables false
set_option linter.unusedSimpArgs false

section
variable {P : Program} {o : Oper} {a : Act} {F : Fr} {σ : St} {K : D → St → Prop} {n : Nat} {df : List Deferred} {E : Value → St → Prop} {base w : World} {G : Gh} {next : Act → World → Prop} {Q : Exit → Act → World → Prop}
theorem aload_sound {t : TypeId} {l : LyI} (hl : layOf P t = some l) {b off : Nat} {vs : List Value} {cs : List D} (hr : RepL G vs cs) (h1 : ∀ y ∈ vs, y.oneCell' = true) (hc : ∀ j v, vs[j]? = some v → w.cell? ⟨b, off + j, none⟩ = some v) {K' : D → Prop} (h : aload l cs K') :
    ∃ v d, (loadVar t ⟨b, off, none⟩).run P w = .ok v w ∧ Rep G v d ∧ K' d := by
  obtain ⟨i, d, z, fl, hi, hd, hz, hfl, h1', h2', rfl⟩ := layOf_inv hl
  unfold aload at h
  cases hag : aggOf d with
  | true =>
    simp only [hag] at h
    obtain ⟨hs, hk⟩ := h
    have hlen : (vs.take i.size).length = i.size := by rw [List.length_take, hr.len]; omega
    refine ⟨.agg (vs.take i.size).toArray, _, run_loadVar_agg hd hag hi b off (vs.take i.size) hlen w (fun j v hv => ?_), ?_, hk⟩
    · rw [List.getElem?_take] at hv
      split at hv
      · exact hc j v hv
      · cases hv
    · refine .agg _ _ (by rw [List.length_take, List.length_take, hr.len]) (fun y hy => h1 y (List.mem_of_mem_take hy)) (fun k x d' hx hd' => ?_)
      rw [List.getElem?_take] at hx hd'
      split at hx
      · rename_i hk'
        rw [if_pos hk'] at hd'
        exact hr.rep k x d' hx hd'
      · cases hx
  | false =>
    simp only [hag] at h
    cases cs with
    | nil => exact h.elim
    | cons e es =>
      obtain ⟨x, xs, rfl, hx, _⟩ := hr.inv
      exact ⟨x, e, run_loadVar_one hd hag (hc 0 x rfl), hx, h⟩
theorem arr_elem {b T sz cap : Nat} {ds : List (List D)} (h : OwnAt w G b (.arr T sz cap ds)) {i : Nat} {cs : List D} (hi : ds[i]? = some cs) :
    ∃ us : List Value, RepL G us cs ∧ (∀ y ∈ us, y.oneCell' = true) ∧ ∀ j v, us[j]? = some v → w.cell? ⟨b, i * sz + j, none⟩ = some v := by
  obtain ⟨_, _, _, hds, vs, rest, hh, hlen, hr, h1⟩ := h
  have hcl : cs.length = sz := hds cs (List.mem_of_getElem? hi)
  have hil : i < ds.length := (List.getElem?_eq_some_iff.1 hi).1
  have hvl : vs.length = ds.length * sz := hr.len.trans (flat_len ds hds)
  have hbd : i * sz + sz ≤ vs.length := by
    rw [hvl]
    have := Nat.mul_le_mul_right sz (show i + 1 ≤ ds.length from hil)
    rw [Nat.add_mul] at this
    omega
  refine ⟨(vs.drop (i * sz)).take sz, ⟨by rw [List.length_take, List.length_drop, hcl]; omega, fun k x d hx hd => ?_⟩, fun y hy => h1 y (List.mem_of_mem_drop (List.mem_of_mem_take hy)), fun j v hv => ?_⟩
  · rw [List.getElem?_take] at hx
    split at hx
    · rename_i hk
      rw [List.getElem?_drop] at hx
      exact hr.rep _ x d hx ((flat_get ds i k cs hds hi hk).trans hd)
    · cases hx
  · rw [List.getElem?_take] at hv
    split at hv
    · rename_i hk
      rw [List.getElem?_drop] at hv
      rw [blk_cell hh, List.getElem?_toArray, List.getElem?_append_left (by omega)]
      exact hv
    · cases hv
theorem flat_set {sz : Nat} : ∀ (ds : List (List D)) (i f : Nat) (cs xs : List D), (∀ c ∈ ds, c.length = sz) → ds[i]? = some cs → f + xs.length ≤ sz → (ds.set i (dput cs f xs)).flatten = dput ds.flatten (i * sz + f) xs
  | [], i, f, cs, xs, _, h, _ => by simp at h
  | c :: ds, 0, f, cs, xs, hs, h, hk => by
    simp at h
    subst h
    have hc : c.length = sz := hs c (by simp)
    simp only [List.set_cons_zero, List.flatten_cons, dput, Nat.zero_mul, Nat.zero_add]
    rw [List.take_append_of_le_length (by omega), List.drop_append_of_le_length (by omega)]
    simp
  | c :: ds, i + 1, f, cs, xs, hs, h, hk => by
    have hc : c.length = sz := hs c (by simp)
    have ih := flat_set ds i f cs xs (fun c hc => hs c (by simp [hc])) (by simpa using h) hk
    simp only [List.set_cons_succ, List.flatten_cons, ih]
    unfold dput
    have e : (i + 1) * sz + f = c.length + (i * sz + f) := by rw [Nat.add_mul, hc]; omega
    rw [e, List.take_append, List.take_of_length_le (show c.length ≤ c.length + (i * sz + f) by omega), Nat.add_sub_cancel_left, Nat.add_assoc c.length, List.drop_append, List.drop_eq_nil_of_le (show c.length ≤ c.length + (i * sz + f + xs.length) by omega), Nat.add_sub_cancel_left]
    simp
theorem dput_len {cs xs : List D} {f : Nat} (h : f + xs.length ≤ cs.length) : (dput cs f xs).length = cs.length := by
  unfold dput
  simp only [List.length_append, List.length_take, List.length_drop]
  omega
theorem snd_load {t : TypeId} {x : Operand} (ho : o.op = .load t x) (h : aop P o.type F σ K E (.load t x)) (hS : Sim base w G σ) (hF : FrRep G a n df F) (hK : Nxt base G a o.dst K next) : o.wp P a w next Q := by
  simp only [aop] at h
  replace h := wo_inv h
  obtain ⟨l, hl, h⟩ := h
  have fin : ∀ (b off : Nat) (v : Value) (d : D), a.eval x = .pointer (some ⟨b, off, none⟩) → (loadVar t ⟨b, off, none⟩).run P w = .ok v w → Rep G v d → K d σ → o.wp P a w next Q := fun b off v d he hrun hr hk =>
    wp_loadI t x ⟨b, off, none⟩ v ho he hrun (hK v w G d σ G.le_refl hS hr hk)
  have hev := hF.ev x
  split at h
  · rename_i cs hx
    rw [hx] at hev
    generalize a.eval x = y at hev fin
    cases hev with
    | ptr ad _ vals hs hcell hrep =>
      obtain ⟨b, off, sp⟩ := ad
      simp only at hs
      subst hs
      have hr : RepL G ((List.range cs.length).map vals) cs := ⟨by simp, fun k u e h1 h2 => by
        rw [List.getElem?_map] at h1
        have hk : k < cs.length := (List.getElem?_eq_some_iff.1 h2).1
        rw [List.getElem?_range hk] at h1
        simp at h1
        subst h1
        exact hrep k e h2⟩
      have hd := fun k (hk : k < cs.length) => hS.data b (off + k) (vals k) (hcell k hk)
      obtain ⟨v, d, h1, h2, h3⟩ := aload_sound hl hr (fun y hy => by
        obtain ⟨k, hk, rfl⟩ := List.mem_map.1 hy
        exact (hd k (List.mem_range.1 hk)).2) (fun j v hv => by
        rw [List.getElem?_map] at hv
        obtain ⟨q, hq, rfl⟩ := Option.map_eq_some_iff.1 hv
        have hq' := List.getElem?_eq_some_iff.1 hq
        obtain ⟨hlt, he⟩ := hq'
        simp at he hlt
        subst he
        exact (hd j hlt).1) h
      exact fin b off v d rfl h1 h2 h3
  · rename_i b off hx
    rw [hx] at hev
    have he := hev.v_inv
    split at h
    · rename_i T cs hb
      obtain ⟨g1, g2, vs, g3, g4, g5⟩ := hS.own b _ hb
      obtain ⟨v, d, h1, h2, h3⟩ := aload_sound (b := b) (off := off) (w := w) hl (vs := vs.drop off) (cs := cs.drop off) ⟨by simp [g4.len], fun k u e h1 h2 => by
        rw [List.getElem?_drop] at h1 h2
        exact g4.rep _ u e h1 h2⟩ (fun y hy => g5 y (List.mem_of_mem_drop hy)) (fun j v hv => by
        rw [List.getElem?_drop] at hv
        rw [blk_cell g3, List.getElem?_toArray]
        exact hv) h
      exact fin b off v d he h1 h2 h3
    · exact h.elim
  · rename_i b sz i f hx
    rw [hx] at hev
    generalize a.eval x = y at hev fin
    cases hev with
    | aptr =>
      split at h
      · rename_i T sz' cap ds hb
        obtain ⟨rfl, h⟩ := h
        replace h := wo_inv h
        obtain ⟨cs, hcs, h⟩ := h
        obtain ⟨us, hr, h1, hc⟩ := arr_elem (hS.own b _ hb).2 hcs
        obtain ⟨v, d, k1, k2, k3⟩ := aload_sound (b := b) (off := i * sz + f) (w := w) hl (hr.drop f) (fun y hy => h1 y (List.mem_of_mem_drop hy)) (fun j v hv => by
          rw [List.getElem?_drop] at hv
          have := hc _ v hv
          rwa [← Nat.add_assoc] at this) h
        exact fin b (i * sz + f) v d rfl k1 k2 k3
      · exact h.elim
  · exact h.elim
theorem snd_store {t : TypeId} {x y : Operand} (ho : o.op = .store t x y) (h : aop P o.type F σ K E (.store t x y)) (hS : Sim base w G σ) (hF : FrRep G a n df F) (hK : Nxt base G a o.dst K next) : o.wp P a w next Q := by
  simp only [aop] at h
  replace h := wo_inv h
  obtain ⟨l, hl, h⟩ := h
  obtain ⟨i, d, z, fl, hi, hd, hz, hfl, h1', h2', rfl⟩ := layOf_inv hl
  have hev := hF.ev x
  split at h
  · rename_i b off hx
    rw [hx] at hev
    have he := hev.v_inv
    split at h
    · rename_i T cs hb
      replace h := wo_inv h
      obtain ⟨xs, hxs, hlen, hle, hk⟩ := h
      obtain ⟨g1, g2, vs, g3, g4, g5⟩ := hS.own b _ hb
      obtain ⟨r1, r2⟩ := D.cells_rep (hF.ev y) hxs
      have hst := run_storeVar_any (P := P) (t := t) hi b off T vs (a.eval y) (r1.len.trans hlen) w g3 (by rw [r1.len, g4.len]; exact hle) r2
      have hrun : (execOp a.eval o).run P w = .ok .skip (w.setRow b (vs.take off ++ (a.eval y).cells.toList ++ vs.drop (off + (a.eval y).cells.toList.length)).toArray) := by
        unfold execOp
        simp only [ho, he, Instr.storeAt, Instr.sureAddr, Sem.run_bind, Sem.run_pure, Result.andThen_ok, hst]
      refine wp_skipI hrun (hK _ _ G .any _ G.le_refl ?_ (.any _) hk)
      exact hS.setBox hb _ _ (g4.dput r1 off) (one_dput g5 r2 off)
    · exact h.elim
  · rename_i b sz i0 f hx
    rw [hx] at hev
    split at h
    · rename_i T sz' cap ds hb
      obtain ⟨rfl, h⟩ := h
      replace h := wo_inv h
      obtain ⟨cs, hcs, h⟩ := h
      replace h := wo_inv h
      obtain ⟨xs, hxs, hlen, hle, hk⟩ := h
      obtain ⟨g1, g2, g3, g4, hds, vs, rest, hh, hvl, hr, h1⟩ := hS.own b _ hb
      obtain ⟨r1, r2⟩ := D.cells_rep (hF.ev y) hxs
      have hcl : cs.length = sz := hds cs (List.mem_of_getElem? hcs)
      have hil : i0 < ds.length := (List.getElem?_eq_some_iff.1 hcs).1
      have hvn : vs.length = ds.length * sz := hr.len.trans (flat_len ds hds)
      have hxl : (a.eval y).cells.toList.length = xs.length := r1.len
      have hbd : i0 * sz + f + xs.length ≤ vs.length := by
        rw [hvn]
        have := Nat.mul_le_mul_right sz (show i0 + 1 ≤ ds.length from hil)
        rw [Nat.add_mul] at this
        omega
      have he : a.eval x = .pointer (some ⟨b, i0 * sz + f, none⟩) := by
        generalize a.eval x = y at hev
        cases hev
        rfl
      have hst := run_storeVar_any (P := P) (t := t) hi b (i0 * sz + f) T (vs ++ rest) (a.eval y) (hxl.trans hlen) w hh (by rw [hxl, List.length_append]; omega) r2
      have hrun : (execOp a.eval o).run P w = .ok .skip (w.setRow b ((vs ++ rest).take (i0 * sz + f) ++ (a.eval y).cells.toList ++ (vs ++ rest).drop (i0 * sz + f + (a.eval y).cells.toList.length)).toArray) := by
        unfold execOp
        simp only [ho, he, Instr.storeAt, Instr.sureAddr, Sem.run_bind, Sem.run_pure, Result.andThen_ok, hst]
      have hrow : (vs ++ rest).take (i0 * sz + f) ++ (a.eval y).cells.toList ++ (vs ++ rest).drop (i0 * sz + f + (a.eval y).cells.toList.length) = (vs.take (i0 * sz + f) ++ (a.eval y).cells.toList ++ vs.drop (i0 * sz + f + (a.eval y).cells.toList.length)) ++ rest := by
        rw [List.take_append_of_le_length (by omega), List.drop_append_of_le_length (by rw [hxl]; omega)]
        simp
      rw [hrow] at hrun
      refine wp_skipI hrun (hK _ _ G .any _ G.le_refl ?_ (.any _) hk)
      refine hS.upd _ (hS.own_below g1 (below_setRow w b _)) (fun k _ hk => setRow_other w b k _ hk) G.le_refl (fun _ _ _ => rfl) (fun o v hv => by rw [g2 o] at hv; cases hv) (fun y' hy => ?_)
      injection hy with hy
      subst hy
      refine ⟨g1, g2, g3, by rw [List.length_set]; exact g4, fun c hc => ?_, _, rest, setRow_heap w b _ _ T (0, 0) hh, ?_, ?_, one_dput h1 r2 _⟩
      · rcases List.mem_or_eq_of_mem_set hc with hc | rfl
        · exact hds c hc
        · rw [dput_len (by omega)]; exact hcl
      · rw [← hvl]
        simp only [List.length_append, List.length_take, List.length_drop]
        omega
      · rw [flat_set ds i0 f cs xs hds hcs (by omega)]
        exact hr.dput r1 _
    · exact h.elim
  · exact h.elim
theorem snd_nilCheck {x : Operand} (ho : o.op = .nilCheck x) (h : aop P o.type F σ K E (.nilCheck x)) (hS : Sim base w G σ) (hF : FrRep G a n df F) (hK : Nxt base G a o.dst K next) : o.wp P a w next Q := by
  have hev := hF.ev x
  simp only [aop] at h
  split at h
  · rename_i cs hx
    rw [hx] at hev
    generalize hy : a.eval x = y at hev
    cases hev with
    | ptr ad _ vals hs hcell hrep => exact wp_nilI x ad ho hy (hK _ _ G _ _ G.le_refl hS (.ptr ad cs vals hs hcell hrep) h)
  · rename_i b sz i f hx
    rw [hx] at hev
    generalize hy : a.eval x = y at hev
    cases hev
    exact wp_nilI x _ ho hy (hK _ _ G _ _ G.le_refl hS (.aptr b sz i f) h)
  · rename_i ad hx
    rw [hx] at hev
    exact wp_nilI x ad ho hev.v_inv (hK _ _ G _ _ G.le_refl hS (.v _) h)
  · rename_i f first caps hx
    rw [hx] at hev
    generalize hy : a.eval x = y at hev
    cases hev with
    | fn _ us vs _ _ hl1 hrep1 hl hrep => exact snd_val hS (by unfold execOp; simp [ho, hy]) (.fn (.func f) us vs first caps hl1 hrep1 hl hrep) h hK
  · exact h.elim
theorem beq_bytes (a b : ByteArray) : (a.toList == b.toList) = decide (a = b) := by
  rw [ByteArray.toList_eq, ByteArray.toList_eq, Bool.eq_iff_iff, beq_iff_eq, decide_eq_true_eq]
  exact ⟨fun h => WideShapes.bytes_inj h, fun h => by rw [h]⟩
theorem aint_sound {op : BinOp} {k : IntKind} {p q : Int} {t : TypeId} {K' : D → Prop} (h : aint op k p q K' ∧ op ≠ .and ∧ op ≠ .or ∧ op ≠ .xor) : ∃ v, (binOp op t (.int k p) (.int k q)).run P w = .ok v w ∧ K' (.v v) := by
  obtain ⟨h, n1, n2, n3⟩ := h
  cases op <;> simp only [aint] at h <;> first
    | exact h.elim
    | (exact absurd rfl n1)
    | (exact absurd rfl n2)
    | (exact absurd rfl n3)
    | (refine ⟨_, ?_, h⟩; simp [binOp, Op.intArith]; done)
    | (refine ⟨_, ?_, h.2⟩; simp [binOp, Op.intDiv, h.1]; done)
    | (refine ⟨_, ?_, h⟩; simp [binOp, Op.intCmp]; done)
    | (refine ⟨_, ?_, h⟩; simp [binOp, Op.intCmp, bne]; done)
    | (refine ⟨_, ?_, h⟩; simp only [binOp, Op.intCmp, if_neg, ne_eq, not_true_eq_false, if_false, Sem.run_pure]; rfl)
theorem astr_sound {op : BinOp} {p q : ByteArray} {t : TypeId} {K' : D → Prop} (h : astr op p q K') : ∃ v, (binOp op t (.string p) (.string q)).run P w = .ok v w ∧ K' (.v v) := by
  cases op <;> simp only [astr] at h <;> first
    | exact h.elim
    | (refine ⟨_, ?_, h⟩; simp [binOp, Op.stringOp, beq_bytes]; done)
    | (refine ⟨_, ?_, h.2⟩
       have h9 : ¬ (((p.size + q.size : Nat) : Int) > IntKind.i64.max) := by
         have : IntKind.i64.max = 9223372036854775807 := by decide
         rw [this]; have := h.1; omega
       simp only [binOp, Op.stringOp, if_neg h9, Sem.run_pure])
theorem guard_plain {op : BinOp} {t : TypeId} {x y : Operand} {p q : Value} (h : match p, q with | .nilIface, .nilIface => False | .agg _, .agg _ => False | _, _ => True) : (eqGuard op t x y p q).run P w = .ok () w := by
  unfold eqGuard
  cases p <;> cases q <;> first
    | exact h.elim
    | (cases op <;> simp)
theorem eq_nilnil {t : TypeId} {ms : Array (String × TypeId)} (hd : P.underlying t = some (.interface ms)) : (Op.equal t .nilIface .nilIface).run P w = .ok true w := by
  unfold Op.equal Op.maxDepth
  rw [show (10000 : Nat) = 9999 + 1 from rfl, Op.equalIn]
  simp only [Sem.run_bind, run_underlying hd, Result.andThen_ok, Sem.run_pure]
theorem eq_held {t u : TypeId} {x : Value} {ms : Array (String × TypeId)} (hd : P.underlying t = some (.interface ms)) : (Op.equal t (.iface u x) .nilIface).run P w = .ok false w := by
  unfold Op.equal Op.maxDepth
  rw [show (10000 : Nat) = 9999 + 1 from rfl, Op.equalIn]
  simp only [Sem.run_bind, run_underlying hd, Result.andThen_ok, Sem.run_pure]
theorem eq_bools {t : TypeId} {p q : Bool} (hd : P.underlying t = some .bool) : (Op.equal t (.bool p) (.bool q)).run P w = .ok (p == q) w := by
  unfold Op.equal Op.maxDepth
  rw [show (10000 : Nat) = 9999 + 1 from rfl, Op.equalIn]
  simp only [Sem.run_bind, run_underlying hd, Result.andThen_ok, Sem.run_pure]
theorem Rep.agg_inv {x : Value} {vs : List Value} (h : Rep G x (.agg (vs.map D.v))) : x = .agg vs.toArray := by
  generalize hcs : vs.map D.v = cs at h
  cases h with
  | agg us _ hl h1 hrep =>
    subst hcs
    have : us = vs := by
      rw [List.length_map] at hl
      refine List.ext_getElem hl (fun k h1 h2 => ?_)
      exact (hrep k us[k] (.v vs[k]) (List.getElem?_eq_getElem h1) (by rw [List.getElem?_map, List.getElem?_eq_getElem h2]; rfl)).v_inv
    rw [this]
theorem aeq_sound {op : BinOp} {t : TypeId} {x y : Value} {r : Bool} {K' : D → Prop} (h : aeq op r K') (he : (Op.equal t x y).run P w = .ok r w) (h1 : binOp .eql t x y = (do pure (.bool (← Op.equal t x y)))) (h2 : binOp .neq t x y = (do pure (.bool (!(← Op.equal t x y))))) :
    ∃ v, (binOp op t x y).run P w = .ok v w ∧ K' (.v v) := by
  cases op <;> simp only [aeq] at h <;> first
    | exact h.elim
    | (refine ⟨_, ?_, h⟩; rw [h1, Sem.run_bind, he]; rfl)
    | (refine ⟨_, ?_, h⟩; rw [h2, Sem.run_bind, he]; rfl)
theorem eq_ptr {t e : TypeId} {a : Option Addr} (hd : P.underlying t = some (.pointer e)) : (Op.equal t (.pointer a) (.pointer none)).run P w = .ok a.isNone w := by
  unfold Op.equal Op.maxDepth
  rw [show (10000 : Nat) = 9999 + 1 from rfl, Op.equalIn]
  cases a <;> simp only [Sem.run_bind, run_underlying hd, Result.andThen_ok, Sem.run_pure, Option.isNone]
theorem eq_slice {t e : TypeId} {a : Option Addr} {n c : Nat} (hd : P.underlying t = some (.slice e)) : (Op.equal t (.slice a n c) (.slice none 0 0)).run P w = .ok a.isNone w := by
  unfold Op.equal Op.maxDepth
  rw [show (10000 : Nat) = 9999 + 1 from rfl, Op.equalIn]
  cases a <;> simp only [Sem.run_bind, run_underlying hd, Result.andThen_ok, Sem.run_pure, Option.isNone]
theorem eq_unlike {t t1 t2 : TypeId} {x y : Value} {ms : Array (String × TypeId)} (hd : P.underlying t = some (.interface ms)) (hn : t1 ≠ t2) : (Op.equal t (.iface t1 x) (.iface t2 y)).run P w = .ok false w := by
  unfold Op.equal Op.maxDepth
  rw [show (10000 : Nat) = 9999 + 1 from rfl, Op.equalIn]
  simp only [Sem.run_bind, run_underlying hd, Result.andThen_ok, if_pos hn, Sem.run_pure]
theorem eq_ints {t t1 : TypeId} {k : IntKind} {p q : Int} {ms : Array (String × TypeId)} {i : TypeInfo} (hd : P.underlying t = some (.interface ms)) (hi : P.info? t1 = some i) (hc : i.comparable = true) (hk : P.underlying t1 = some (.int k)) :
    (Op.equal t (.iface t1 (.int k p)) (.iface t1 (.int k q))).run P w = .ok (decide (p = q)) w := by
  unfold Op.equal Op.maxDepth
  have ht : (typeInfo t1).run P w = .ok i w := by simp [typeInfo, hi]
  rw [show (10000 : Nat) = 9999 + 1 from rfl, Op.equalIn]
  simp only [Sem.run_bind, run_underlying hd, Result.andThen_ok, ne_eq, not_true_eq_false, if_false, ht, hc, Bool.not_true, Bool.false_eq_true]
  rw [show (9999 : Nat) = 9998 + 1 from rfl, Op.equalIn]
  simp only [Sem.run_bind, run_underlying hk, Result.andThen_ok, if_true, Sem.run_pure]
  congr 1
theorem kd_ptr {d : TypeDesc} {e : TypeId} (h : kdOf d = .pointer e) : d = .pointer e := by cases d <;> simp_all [kdOf]
theorem kd_int {d : TypeDesc} {k : IntKind} (h : kdOf d = .int k) : d = .int k := by cases d <;> simp_all [kdOf]
theorem kd_map {d : TypeDesc} {k e : TypeId} (h : kdOf d = .map k e) : d = .map k e := by cases d <;> simp_all [kdOf]
theorem ifc_of {t : TypeId} (h : wo (layOf P t) fun l => l.kd.ifc = true) : ∃ ms, P.underlying t = some (.interface ms) := by
  obtain ⟨l, hl, hkd⟩ := wo_inv h
  obtain ⟨b, hkd⟩ := Kd.ifc_inv hkd
  obtain ⟨i, d, z, fl, hi, hd, hz, hfl, h1', h2', rfl⟩ := layOf_inv hl
  obtain ⟨ms, rfl, rfl⟩ := kd_iface hkd
  exact ⟨ms, hd⟩
theorem sl_of {t : TypeId} (h : wo (layOf P t) fun l => l.kd.sl.isSome = true) : ∃ e, P.underlying t = some (.slice e) := by
  obtain ⟨l, hl, hkd⟩ := wo_inv h
  obtain ⟨e, hkd⟩ := Option.isSome_iff_exists.1 hkd
  replace hkd := Kd.sl_inv hkd
  obtain ⟨i, d, z, fl, hi, hd, hz, hfl, h1', h2', rfl⟩ := layOf_inv hl
  rw [kd_slice hkd] at hd
  exact ⟨e, hd⟩
theorem ptr_of {t : TypeId} (h : wo (layOf P t) fun l => l.kd.isPtr = true) : ∃ e, P.underlying t = some (.pointer e) := by
  obtain ⟨l, hl, hkd⟩ := wo_inv h
  obtain ⟨e, hkd⟩ := Kd.ptr_inv hkd
  obtain ⟨i, d, z, fl, hi, hd, hz, hfl, h1', h2', rfl⟩ := layOf_inv hl
  rw [kd_ptr hkd] at hd
  exact ⟨e, hd⟩
theorem bool_of {t : TypeId} (h : wo (layOf P t) fun l => l.kd.isBool = true) : P.underlying t = some .bool := by
  obtain ⟨l, hl, hkd⟩ := wo_inv h
  obtain ⟨i, d, z, fl, hi, hd, hz, hfl, h1', h2', rfl⟩ := layOf_inv hl
  rw [kd_bool (Kd.bool_inv hkd)] at hd
  exact hd
theorem str_of {t : TypeId} (h : wo (layOf P t) fun l => l.kd.isStr = true) : P.underlying t = some .string := by
  obtain ⟨l, hl, hkd⟩ := wo_inv h
  obtain ⟨i, d, z, fl, hi, hd, hz, hfl, h1', h2', rfl⟩ := layOf_inv hl
  rw [kd_str (Kd.str_inv hkd)] at hd
  exact hd
theorem aint_bits {op : BinOp} {k : IntKind} {p q : Int} {t : TypeId} {K' : D → Prop} (h : aint op k p q K') (hop : op = .and ∨ op = .or ∨ op = .xor) : ∃ v, (binOp op t (.int k p) (.int k q)).run P w = .ok v w ∧ K' (.v v) := by
  rcases hop with rfl | rfl | rfl <;> simp only [aint] at h <;> (refine ⟨_, ?_, h⟩; simp [binOp, Op.intBits, bAnd, bOr, bXor])
theorem ashift_sound {op : BinOp} {k k' : IntKind} {p q : Int} {t : TypeId} {K' : D → Prop} (h : ashift op k p q K') : ∃ v, (binOp op t (.int k p) (.int k' q)).run P w = .ok v w ∧ K' (.v v) := by
  cases op <;> simp only [ashift] at h <;> first
    | exact h.elim
    | (refine ⟨_, ?_, h.2⟩; simp only [binOp, Op.shift, if_neg (show ¬ q < 0 by omega)]; rfl)
theorem slice_some {x : Value} {d : D} (h : Rep G x d) (hd : (match d with | .slice _ _ _ _ | .arr _ _ _ _ _ | .lst _ _ (_ :: _) => True | _ => False)) : ∃ a n c, x = .slice (some a) n c := by
  cases h with
  | slice ad c _ _ _ _ vals hs hc hfull hsz hcell hrep htip => exact ⟨_, _, _, rfl⟩
  | arr b off c sz cap o n h h0 hn => exact ⟨_, _, _, rfl⟩
  | lst x full sz ds h =>
    cases h with
    | slice ad c _ _ _ _ vals hs hc hfull hsz hcell hrep htip => exact ⟨_, _, _, rfl⟩
  | _ => exact hd.elim
theorem abin_sound {op : BinOp} {t : TypeId} {ox oy : Operand} {x y : Value} {dx dy : D} {K' : D → Prop} (h : abin P op t (isLit ox || isLit oy) dx dy K') (hx : Rep G x dx) (hy : Rep G y dy) :
    (eqGuard op t ox oy x y).run P w = .ok () w ∧ ∃ v d, (binOp op t x y).run P w = .ok v w ∧ Rep G v d ∧ K' d := by
  have wrap : (eqGuard op t ox oy x y).run P w = .ok () w → (∃ v, (binOp op t x y).run P w = .ok v w ∧ K' (.v v)) → (eqGuard op t ox oy x y).run P w = .ok () w ∧ ∃ v d, (binOp op t x y).run P w = .ok v w ∧ Rep G v d ∧ K' d := fun h1 ⟨v, h2, h3⟩ => ⟨h1, v, _, h2, .v v, h3⟩
  unfold abin at h
  split at h
  · rename_i k p k' q
    have e1 := hx.v_inv; have e2 := hy.v_inv
    subst e1; subst e2
    refine wrap (guard_plain trivial) ?_
    split at h
    · exact ashift_sound h
    · exact ashift_sound h
    · obtain ⟨rfl, h⟩ := h
      by_cases hb : op = .and ∨ op = .or ∨ op = .xor
      · exact aint_bits h hb
      · exact aint_sound (by cases op <;> simp_all [aint])
  · have e1 := hx.v_inv; have e2 := hy.v_inv
    subst e1; subst e2
    exact wrap (guard_plain trivial) (astr_sound h)
  · have e1 := hx.v_inv; have e2 := hy.v_inv
    subst e1; subst e2
    obtain ⟨hlit, hl0, h⟩ := h
    obtain ⟨ms, hd⟩ := ifc_of hl0
    refine wrap ?_ (aeq_sound h (eq_nilnil hd) rfl rfl)
    cases ox <;> cases oy <;> first
      | (simp [isLit] at hlit; done)
      | (unfold eqGuard; cases op <;> simp; done)
  · have e2 := hy.v_inv
    subst e2
    obtain ⟨hl0, h⟩ := h
    obtain ⟨ms, hd⟩ := ifc_of hl0
    cases hx with
    | iface _ x' _ hr => exact wrap (guard_plain trivial) (aeq_sound h (eq_held hd) rfl rfl)
  · obtain ⟨hl0, h⟩ := h
    obtain ⟨ms, hd⟩ := ifc_of hl0
    cases hx with
    | iface _ x' _ hr =>
      cases hy with
      | iface _ y' _ hr' =>
        have e1 := hr.v_inv; have e2 := hr'.v_inv
        subst e1; subst e2
        rcases h with ⟨hn, h⟩ | ⟨rfl, rfl, hk, hc, h⟩
        · exact wrap (guard_plain trivial) (aeq_sound h (eq_unlike hd hn) rfl rfl)
        · obtain ⟨l, hl, hkd⟩ := wo_inv hk
          obtain ⟨i, d, z, fl, hi, hd1, hz, hfl, h1', h2', rfl⟩ := layOf_inv hl
          rw [kd_int (Kd.ints_inv hkd)] at hd1
          rw [hi] at hc
          exact wrap (guard_plain trivial) (aeq_sound h (eq_ints hd hi (by simpa using hc) hd1) rfl rfl)
  · obtain ⟨hl0, hn, h⟩ := h
    obtain ⟨ms, hd⟩ := ifc_of hl0
    cases hx with
    | iface _ x' _ hr =>
      cases hy with
      | iface _ y' _ hr' => exact wrap (guard_plain trivial) (aeq_sound h (eq_unlike hd hn) rfl rfl)
  · have e1 := hx.v_inv; have e2 := hy.v_inv
    subst e1; subst e2
    obtain ⟨hl0, h⟩ := h
    exact wrap (guard_plain trivial) (aeq_sound h (eq_bools (bool_of hl0)) rfl rfl)
  · have e1 := hx.v_inv; have e2 := hy.v_inv
    subst e1; subst e2
    obtain ⟨hl0, h⟩ := h
    obtain ⟨e, hd⟩ := ptr_of hl0
    exact wrap (guard_plain trivial) (aeq_sound h (eq_ptr hd) rfl rfl)
  · have e2 := hy.v_inv
    subst e2
    obtain ⟨hl0, h⟩ := h
    obtain ⟨e, hd⟩ := ptr_of hl0
    cases hx with
    | ptr ad _ vals hs hcell hrep => exact wrap (guard_plain trivial) (aeq_sound h (eq_ptr (a := some ad) hd) rfl rfl)
  · have e1 := hx.v_inv; have e2 := hy.v_inv
    subst e1; subst e2
    obtain ⟨hl0, h⟩ := h
    obtain ⟨e, hd⟩ := sl_of hl0
    exact wrap (guard_plain trivial) (aeq_sound h (eq_slice (a := none) hd) rfl rfl)
  · have e2 := hy.v_inv
    subst e2
    obtain ⟨hl0, h⟩ := h
    obtain ⟨e, hd⟩ := sl_of hl0
    obtain ⟨a, n, c, rfl⟩ := slice_some hx trivial
    exact wrap (guard_plain trivial) (aeq_sound h (eq_slice (a := some a) hd) rfl rfl)
  · have e2 := hy.v_inv
    subst e2
    obtain ⟨hl0, h⟩ := h
    obtain ⟨e, hd⟩ := sl_of hl0
    obtain ⟨a, n, c, rfl⟩ := slice_some hx trivial
    exact wrap (guard_plain trivial) (aeq_sound h (eq_slice (a := some a) hd) rfl rfl)
  · have e2 := hy.v_inv
    subst e2
    obtain ⟨hl0, h⟩ := h
    obtain ⟨e, hd⟩ := sl_of hl0
    obtain ⟨a, n, c, rfl⟩ := slice_some hx trivial
    exact wrap (guard_plain trivial) (aeq_sound h (eq_slice (a := some a) hd) rfl rfl)
  · have e2 := hy.v_inv
    subst e2
    obtain ⟨hl0, h, h'⟩ := h
    obtain ⟨e, hd⟩ := sl_of hl0
    cases hx with
    | lst0 => exact wrap (guard_plain trivial) (aeq_sound h (eq_slice (a := none) hd) rfl rfl)
    | lst _ _ _ _ hx =>
      obtain ⟨a, n, c, rfl⟩ := slice_some hx trivial
      exact wrap (guard_plain trivial) (aeq_sound h' (eq_slice (a := some a) hd) rfl rfl)
  · obtain ⟨r, ⟨vs, us, rfl, rfl, hg, heq⟩, h⟩ := h
    have e1 := hx.agg_inv; have e2 := hy.agg_inv
    subst e1; subst e2
    exact wrap (run_eqGuard_agg w _ t ox oy _ _ hg) (aeq_sound h (by exact heq w) rfl rfl)
  · exact h.elim
theorem snd_bin {op : BinOp} {t : TypeId} {x y : Operand} {ty : TypeId} (ho : o.op = .binOp op t x y ty) (h : aop P o.type F σ K E (.binOp op t x y ty)) (hS : Sim base w G σ) (hF : FrRep G a n df F) (hK : Nxt base G a o.dst K next) : o.wp P a w next Q := by
  simp only [aop] at h
  obtain ⟨h1, v, d, h2, h3, h4⟩ := abin_sound (w := w) h (hF.ev x) (hF.ev y)
  exact wp_binI op t x y ty _ _ v ho rfl rfl (by simp [h1, h2]) (hK v w G d σ G.le_refl hS h3 h4)
theorem snd_un {op : UnOp} {t : TypeId} {x : Operand} (ho : o.op = .unOp op t x) (h : aop P o.type F σ K E (.unOp op t x)) (hS : Sim base w G σ) (hF : FrRep G a n df F) (hK : Nxt base G a o.dst K next) : o.wp P a w next Q := by
  have hx := hF.ev x
  simp only [aop] at h
  split at h
  · rename_i b e
    rw [e] at hx
    exact snd_val (v := .bool (!b)) hS (by unfold execOp; simp [ho, hx.v_inv, Op.unary]) (.v _) h hK
  · rename_i k m e
    rw [e] at hx
    exact snd_val (v := .int k (k.wrap (0 - m))) hS (by unfold execOp; simp [ho, hx.v_inv, Op.unary, Op.intArith]) (.v _) h hK
  · exact h.elim
theorem snd_iface {t : TypeId} {x : Operand} (ho : o.op = .makeInterface t x) (h : aop P o.type F σ K E (.makeInterface t x)) (hS : Sim base w G σ) (hF : FrRep G a n df F) (hK : Nxt base G a o.dst K next) : o.wp P a w next Q := by
  simp only [aop] at h
  obtain ⟨hl0, h⟩ := h
  obtain ⟨l, hl, hkd⟩ := wo_inv hl0
  obtain ⟨i, d, z, fl, hi, hd, hz, hfl, h1', h2', rfl⟩ := layOf_inv hl
  refine wp_ifaceI t x _ _ ho rfl ?_ (hK _ _ G _ _ G.le_refl hS (.iface t _ _ (hF.ev x)) h)
  unfold Instr.makeInterface
  rw [Sem.run_bind, run_underlying hd]
  cases d <;> simp_all [kdOf, Kd.ifc]
theorem evL (hF : FrRep G a n df F) : ∀ (xs : List Operand), RepL G (xs.map a.eval) (xs.map (ev F))
  | [] => RepL.nil G
  | x :: xs => (evL hF xs).cons (hF.ev x)
theorem snd_makeFunc {fn : Fn} {first caps : Array Operand} (ho : o.op = .makeFunc fn first caps) (h : aop P o.type F σ K E (.makeFunc fn first caps)) (hS : Sim base w G σ) (hF : FrRep G a n df F) (hK : Nxt base G a o.dst K next) : o.wp P a w next Q := by
  simp only [aop] at h
  have hl := evL hF caps.toList
  have hl1 := evL hF first.toList
  refine snd_val (v := .func fn (first.toList.map a.eval).toArray (caps.toList.map a.eval).toArray) hS ?_ (.fn fn _ _ _ _ hl1.len hl1.rep hl.len hl.rep) h hK
  have e : caps.map a.eval = (caps.toList.map a.eval).toArray := by rw [← Array.toList_map, Array.toArray_toList]
  have e1 : first.map a.eval = (first.toList.map a.eval).toArray := by rw [← Array.toList_map, Array.toArray_toList]
  unfold execOp
  simp only [ho, Instr.makeFunc, e, e1]
  simp
theorem snd_fieldAddr {s : TypeId} {x : Operand} {f : Nat} (ho : o.op = .fieldAddr s x f) (h : aop P o.type F σ K E (.fieldAddr s x f)) (hS : Sim base w G σ) (hF : FrRep G a n df F) (hK : Nxt base G a o.dst K next) : o.wp P a w next Q := by
  simp only [aop] at h
  replace h := wo_inv h
  obtain ⟨l, hl, h⟩ := h
  replace h := wo_inv h
  obtain ⟨⟨off, size, g⟩, hf, hne, h⟩ := h
  obtain ⟨i, d, z, fl, hi, hd, hz, hfl, h1', h2', rfl⟩ := layOf_inv hl
  obtain ⟨fs, rfl⟩ := fieldsOf_struct hfl hf
  obtain ⟨fd, fi, dd, g1, g2, g3, rfl, rfl, rfl⟩ := fieldsOf_get hfl hf
  have hev := hF.ev x
  split at h
  · rename_i cs hx
    rw [hx] at hev
    generalize hy : a.eval x = y at hev
    cases hev with
    | ptr ad _ vals hs hcell hrep =>
      obtain ⟨b, off, sp⟩ := ad
      simp only at hs
      subst hs
      refine wp_fieldI s x f _ _ ho hy (run_fieldAt hd g1 g2 hne) (hK _ _ G _ _ G.le_refl hS ?_ h)
      refine .ptr _ _ (fun k => vals (fd.offset + k)) rfl (fun k hk => ?_) (fun k e he => ?_)
      · have := hcell (fd.offset + k) (by rw [List.length_drop] at hk; omega)
        simpa [Nat.add_assoc] using this
      · rw [List.getElem?_drop] at he
        exact hrep _ e he
  · rename_i b off hx
    rw [hx] at hev
    exact wp_fieldI s x f _ _ ho hev.v_inv (run_fieldAt hd g1 g2 hne) (hK _ _ G _ _ G.le_refl hS (.v _) h)
  · rename_i b sz i0 o0 hx
    rw [hx] at hev
    have he : a.eval x = .pointer (some ⟨b, i0 * sz + o0, none⟩) := by
      generalize a.eval x = y at hev
      cases hev
      rfl
    refine wp_fieldI s x f _ _ ho he (run_fieldAt hd g1 g2 hne) (hK _ _ G _ _ G.le_refl hS ?_ h)
    rw [Nat.add_assoc]
    exact .aptr b sz i0 (o0 + fd.offset)
  · exact h.elim
end
end Go.Proofs.YtmpbofmhjjgccaaDoor
