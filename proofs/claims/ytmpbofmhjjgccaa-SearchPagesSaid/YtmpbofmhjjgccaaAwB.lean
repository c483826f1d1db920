/-
  Operations as they are reasoned about: what is owed ahead of each.
-/
import Derived.Test.YtmpbofmhjjgccaaAwA
import Derived.Test.YtmpbofmhjjgccaaFill
namespace Go.Proofs.Ytmpbofmhjjgccaa
open Go.RowKit
set_option linter.unusedVariables false
set_option linter.unusedSimpArgs false

abbrev Fr := Nat → D
def ev (F : Fr) : Operand → D
  | .tmp t => F t
  | .const v => .v v
  | .global g => .v (.pointer (some ⟨g, 0, none⟩))
  | .func f => .v (.func (.func f) #[] #[])
/-- A frame's slots. -/
structure FrRep (G : Gh) (a : Act) (n : Nat) (F : Fr) : Prop where
  size : a.tmps.size = n
  defers : a.defers = []
  rep : ∀ t, Rep G (a.tmps.getD t undef) (F t)
theorem FrRep.mono {G G' : Gh} (hG : G.le G') {a : Act} {n : Nat} {F : Fr} (h : FrRep G a n F) : FrRep G' a n F := ⟨h.size, h.defers, fun t => (h.rep t).mono hG⟩
theorem FrRep.ev {G : Gh} {a : Act} {n : Nat} {F : Fr} (h : FrRep G a n F) (x : Operand) : Rep G (a.eval x) (ev F x) := by
  cases x with
  | tmp t => exact h.rep t
  | const v => exact .v v
  | global g => exact .v _
  | func f => exact .v _
theorem FrRep.put {G : Gh} {a : Act} {n : Nat} {F : Fr} (h : FrRep G a n F) {t : Nat} (ht : t < n) {v : Value} {d : D} (hr : Rep G v d) : FrRep G (a.put (some t) v) n (upd F t d) := by
  refine ⟨by simp [Act.put, h.size], h.defers, fun k => ?_⟩
  simp only [Act.put, Array.getD_eq_getD_getElem?, Array.getElem?_setIfInBounds, upd]
  by_cases e : t = k
  · subst e
    rw [if_pos rfl, if_pos rfl, if_pos (by rw [h.size]; exact ht)]
    exact hr
  · rw [if_neg e, if_neg (fun e' => e e'.symm), ← Array.getD_eq_getD_getElem?]
    exact h.rep k
theorem FrRep.put0 {G : Gh} {a : Act} {n : Nat} {F : Fr} (h : FrRep G a n F) (v : Value) : FrRep G (a.put none v) n F := h

/-- What is known of a type. -/
inductive Kd where
  | str | int (k : IntKind) | slice (e : TypeId) | strukt | iface (bare : Bool) | bool | map (k e : TypeId) | pointer (e : TypeId) | func | other
structure LyI where
  agg : Bool
  size : Nat
  bytes : Nat
  zero : List Value
  fields : List (Nat × Nat × Bool)
  kd : Kd
def kdOf : TypeDesc → Kd
  | .string => .str
  | .int k => .int k
  | .slice e => .slice e
  | .struct _ => .strukt
  | .interface ms => .iface ms.isEmpty
  | .bool => .bool
  | .map k e => .map k e
  | .pointer e => .pointer e
  | .func _ _ _ => .func
  | _ => .other
def aggOf : TypeDesc → Bool
  | .struct _ | .array _ _ => true
  | _ => false
def fieldOf (P : Program) (f : Field) : Option (Nat × Nat × Bool) :=
  match P.info? f.type, P.underlying f.type with
  | some i, some d => some (f.offset, i.size, aggOf d)
  | _, _ => none
def fieldsOf (P : Program) : TypeDesc → Option (List (Nat × Nat × Bool))
  | .struct fs => fs.toList.mapM (fieldOf P)
  | _ => some []
def layOf (P : Program) (t : TypeId) : Option LyI :=
  match P.info? t, P.underlying t with
  | some i, some d =>
    match i.zero, fieldsOf P d with
    | some z, some fl => if z.cells.toList.all (·.oneCell') && (z.cells.toList.length == i.size) then some ⟨aggOf d, i.size, i.bytes, z.cells.toList, fl, kdOf d⟩ else none
    | _, _ => none
  | _, _ => none
theorem layOf_inv {P : Program} {t : TypeId} {l : LyI} (h : layOf P t = some l) :
    ∃ i d z fl, P.info? t = some i ∧ P.underlying t = some d ∧ i.zero = some z ∧ fieldsOf P d = some fl ∧ (∀ x ∈ z.cells.toList, x.oneCell' = true) ∧ z.cells.toList.length = i.size ∧ l = ⟨aggOf d, i.size, i.bytes, z.cells.toList, fl, kdOf d⟩ := by
  unfold layOf at h
  cases hi : P.info? t with
  | none => simp [hi] at h
  | some i =>
    cases hd : P.underlying t with
    | none => simp [hi, hd] at h
    | some d =>
      cases hz : i.zero with
      | none => simp [hi, hd, hz] at h
      | some z =>
        cases hf : fieldsOf P d with
        | none => simp [hi, hd, hz, hf] at h
        | some fl =>
          simp only [hi, hd, hz, hf] at h
          split at h
          · rename_i h1
            injection h with h
            simp only [Bool.and_eq_true, List.all_eq_true, beq_iff_eq] at h1
            exact ⟨i, d, z, fl, rfl, rfl, hz, hf, h1.1, h1.2, h.symm⟩
          · cases h

/-- Where there is one. -/
def wo {α : Type} (o : Option α) (K : α → Prop) : Prop := match o with | some a => K a | none => False
theorem wo_inv {α : Type} {o : Option α} {K : α → Prop} (h : wo o K) : ∃ a, o = some a ∧ K a := by
  cases o with
  | none => exact h.elim
  | some a => exact ⟨a, rfl, h⟩
theorem wo_some {α : Type} (a : α) (K : α → Prop) : wo (some a) K = K a := rfl
def Kd.sl : Kd → Option TypeId
  | .slice e => some e
  | _ => none
theorem Kd.sl_inv {k : Kd} {e : TypeId} (h : k.sl = some e) : k = .slice e := by cases k <;> simp_all [Kd.sl]
def Kd.ifc : Kd → Bool
  | .iface _ => true
  | _ => false
theorem Kd.ifc_inv {k : Kd} (h : k.ifc = true) : ∃ b, k = .iface b := by cases k <;> simp_all [Kd.ifc]
def Kd.isStr : Kd → Bool | .str => true | _ => false
def Kd.isBool : Kd → Bool | .bool => true | _ => false
def Kd.isStrukt : Kd → Bool | .strukt => true | _ => false
theorem Kd.str_inv {k : Kd} (h : k.isStr = true) : k = .str := by cases k <;> simp_all [Kd.isStr]
theorem Kd.bool_inv {k : Kd} (h : k.isBool = true) : k = .bool := by cases k <;> simp_all [Kd.isBool]
theorem Kd.strukt_inv {k : Kd} (h : k.isStrukt = true) : k = .strukt := by cases k <;> simp_all [Kd.isStrukt]
/-- The cells of what is laid into a variable. -/
def D.cells : D → Option (List D)
  | .any | .tup _ | .v (.tuple _) => none
  | .v (.agg cs) => if cs.toList.all (·.oneCell') then some (cs.toList.map .v) else none
  | .agg cs => some cs
  | d => some [d]
def dput (cur : List D) (o : Nat) (cs : List D) : List D := cur.take o ++ cs ++ cur.drop (o + cs.length)
def aload (l : LyI) (cs : List D) (K : D → Prop) : Prop :=
  match l.agg with
  | true => l.size ≤ cs.length ∧ K (.agg (cs.take l.size))
  | false => match cs with | d :: _ => K d | [] => False
def abuild (fields : List (Nat × Nat × Bool)) : List (Nat × D) → List D → Option (List D)
  | [], cs => some cs
  | (k, d) :: rest, cs =>
    match fields[k]?, d.cells with
    | some (off, size, _), some xs => if xs.length = size ∧ off + size ≤ cs.length then abuild fields rest (dput cs off xs) else none
    | _, _ => none
def abuildS (sz : Nat) : Nat → List (Nat × D) → Option (List (List D))
  | _, [] => some []
  | k, (j, d) :: rest =>
    match d.cells with
    | some xs => if xs.length = sz ∧ j = k then (abuildS sz (k + 1) rest).map (xs :: ·) else none
    | none => none
/-- A list, of whatever form: may it be nil; may it grow; is it full; its elements. -/
def D.list : D → Option (Bool × Option (Nat × Nat) × Bool × Nat × List (List D))
  | .slice tip full sz ds => some (false, tip, full, sz, ds)
  | .lst full sz ds => some (true, none, full, sz, ds)
  | _ => none
def sfull (full : Bool) (n h : Nat) : Option Nat → Bool
  | some m => decide (m = h)
  | none => full && decide (h = n)
def aslice (nl : Bool) (tip : Option (Nat × Nat)) (full : Bool) (sz : Nat) (ds : List (List D)) (l h : Nat) (m : Option Nat) : D :=
  match nl with
  | false => .slice (if l = 0 ∧ m = none then (if h = ds.length then tip else none) else none) (sfull full ds.length h m) sz ((ds.take h).drop l)
  | true => .lst (sfull full ds.length h m) sz ((ds.take h).drop l)
def obound (F : Fr) (d : Nat) : Option Operand → Option Int
  | none => some d
  | some x => match ev F x with | .v (.int _ n) => some n | _ => none
def aint (op : BinOp) (k : IntKind) (a b : Int) (K : D → Prop) : Prop :=
  match op with
  | .add => K (.v (.int k (k.wrap (a + b))))
  | .sub => K (.v (.int k (k.wrap (a - b))))
  | .mul => K (.v (.int k (k.wrap (a * b))))
  | .quo => b ≠ 0 ∧ K (.v (.int k (k.wrap (a.tdiv b))))
  | .rem => b ≠ 0 ∧ K (.v (.int k (a.tmod b)))
  | .eql => K (.v (.bool (decide (a = b))))
  | .neq => K (.v (.bool (!decide (a = b))))
  | .lss => K (.v (.bool (decide (a < b))))
  | .leq => K (.v (.bool (decide (a ≤ b))))
  | .gtr => K (.v (.bool (decide (b < a))))
  | .geq => K (.v (.bool (decide (b ≤ a))))
  | _ => False
def astr (op : BinOp) (a b : ByteArray) (K : D → Prop) : Prop :=
  match op with
  | .add => a.size + b.size ≤ 9223372036854775807 ∧ K (.v (.string (a ++ b)))
  | .eql => K (.v (.bool (decide (a = b))))
  | .neq => K (.v (.bool (!decide (a = b))))
  | .lss => K (.v (.bool (Op.bytesLess a.toList b.toList)))
  | .gtr => K (.v (.bool (!(Op.bytesLess a.toList b.toList || decide (a = b)))))
  | .leq => K (.v (.bool (Op.bytesLess a.toList b.toList || decide (a = b))))
  | .geq => K (.v (.bool (!Op.bytesLess a.toList b.toList)))
  | _ => False
def isLit : Operand → Bool | .const _ => true | _ => false
/-- What '==' says of two structs. -/
def AggEq (P : Program) (t : TypeId) (cs ds : List D) (r : Bool) : Prop :=
  ∃ vs us : List Value, cs = vs.map D.v ∧ ds = us.map D.v ∧ P.eqGuardType P.depth t = false ∧ ∀ w : World, (Op.equalIn 10000 t (.agg vs.toArray) (.agg us.toArray)).run P w = .ok r w
def abin (P : Program) (op : BinOp) (t : TypeId) (lit : Bool) (x y : D) (K : D → Prop) : Prop :=
  match x, y with
  | .v (.int k a), .v (.int k' b) => k = k' ∧ aint op k a b K
  | .v (.string a), .v (.string b) => astr op a b K
  | .v .nilIface, .v .nilIface =>
    lit = true ∧ (wo (layOf P t) fun l => l.kd.ifc = true) ∧ match op with | .eql => K (.v (.bool true)) | .neq => K (.v (.bool false)) | _ => False
  | .iface _ _, .v .nilIface => (wo (layOf P t) fun l => l.kd.ifc = true) ∧ match op with | .eql => K (.v (.bool false)) | .neq => K (.v (.bool true)) | _ => False
  | .v (.bool a), .v (.bool b) => (wo (layOf P t) fun l => l.kd.isBool = true) ∧ match op with | .eql => K (.v (.bool (a == b))) | .neq => K (.v (.bool (!(a == b)))) | _ => False
  | .agg cs, .agg ds => ∃ r, AggEq P t cs ds r ∧ match op with | .eql => K (.v (.bool r)) | .neq => K (.v (.bool (!r))) | _ => False
  | _, _ => False
def aconst (a b : D) (p : Bool) : D := if p then a else b

/-- A function that may be called. -/
def FnOk (P : Program) (f : FuncId) : Prop := ∃ fn, P.funcs[f]? = some fn ∧ (fn.name == "runtime.NumGoroutine") = false ∧ fn.body.isNone = false
theorem fnOk_of {P : Program} {f : FuncId} (h : ((P.funcs[f]?).map fun fn => !(fn.name == "runtime.NumGoroutine") && !fn.body.isNone) = some true) : FnOk P f := by
  cases hf : P.funcs[f]? with
  | none => simp [hf] at h
  | some fn =>
    simp only [hf, Option.map_some, Option.some.injEq, Bool.and_eq_true, Bool.not_eq_true'] at h
    exact ⟨fn, hf, h.1, h.2⟩
/-- What a function does to what it is called with. -/
def Tri (P : Program) (f : FuncId) (ds : List D) (σ : St) (R : D → St → Prop) : Prop :=
  ∀ (base w : World) (G : Gh) (vs : List Value), Sim base w G σ → RepL G vs ds → Calls P f vs.toArray w fun e w' => ∃ v d σ' G', e = .returned v ∧ G.le G' ∧ Sim base w' G' σ' ∧ Rep G' v d ∧ R d σ'
theorem Tri.mono {P : Program} {f : FuncId} {ds : List D} {σ : St} {R R' : D → St → Prop} (h : Tri P f ds σ R) (hr : ∀ d σ', R d σ' → R' d σ') : Tri P f ds σ R' :=
  fun base w G vs hS hA => (h base w G vs hS hA).mono fun e w' ⟨v, d, σ', G', h1, h2, h3, h4, h5⟩ => ⟨v, d, σ', G', h1, h2, h3, h4, hr _ _ h5⟩

def D.isSl : D → Prop
  | .v (.slice none 0 0) => True
  | d => d.list.isSome = true
/-- A block that is none's yet. -/
def Fresh (σ : St) (b : Nat) : Prop := σ.box b = none ∧ σ.tip b = none
/-- What is owed at an append: behind it the list may grow. -/
def agrow (σ : St) (e : TypeId) (sz bytes : Nat) (old : List (List D)) (sz' : Nat) (new : List (List D)) (σ1 : St) (K : D → St → Prop) : Prop :=
  sz' = sz ∧ 0 < sz ∧ (old.length + new.length) * bytes ≤ 140737488355328 ∧ old.length + new.length ≤ 140737488355328 ∧
    ∀ b cap, Fresh σ1 b → old.length + new.length ≤ cap → K (.slice (some (b, cap)) false sz (old ++ new)) (σ1.setTip b (some (e, sz, cap, old.length + new.length)))
def aappend (σ : St) (e : TypeId) (sz bytes : Nat) (x y : D) (K : D → St → Prop) : Prop :=
  match x, y.list with
  | .v (.slice none 0 0), some (_, _, _, sz', new) => (new = [] → K (.v (.slice none 0 0)) σ) ∧ (new ≠ [] → agrow σ e sz bytes [] sz' new σ K)
  | .slice (some (b, cap)) _ sz'' old, some (_, _, _, sz', new) => σ.tip b = some (e, sz, cap, old.length) ∧ sz'' = sz ∧ agrow σ e sz bytes old sz' new (σ.setTip b none) K
  | .slice none true sz'' old, some (_, _, _, sz', new) => sz'' = sz ∧ (K (.slice none false sz (old ++ new)) σ ∧ sz' = sz ∧ 0 < sz ∧ (old.length + new.length) * bytes ≤ 140737488355328 ∧ old.length + new.length ≤ 140737488355328 ∨ new ≠ [] ∧ agrow σ e sz bytes old sz' new σ K)
  | .lst true sz'' old, some (_, _, _, sz', new) => sz'' = sz ∧ (K (.lst false sz (old ++ new)) σ ∧ sz' = sz ∧ 0 < sz ∧ (old.length + new.length) * bytes ≤ 140737488355328 ∧ old.length + new.length ≤ 140737488355328 ∨ new ≠ [] ∧ agrow σ e sz bytes old sz' new σ K)
  | d, none => match y with | .v (.slice none 0 0) => d.isSl ∧ K d σ | _ => False
  | _, _ => False

def abuiltin (P : Program) (b : Builtin) (ts : List TypeId) (ty : TypeId) (σ : St) (K : D → St → Prop) (ds : List D) : Prop :=
  match b, ts, ds with
  | .len, [t], [.slice _ _ _ ds] => (wo (layOf P t) fun l => l.kd.sl.isSome = true) ∧ K (.v (.int .i64 ds.length)) σ
  | .len, [t], [.lst _ _ ds] => (wo (layOf P t) fun l => l.kd.sl.isSome = true) ∧ K (.v (.int .i64 ds.length)) σ
  | .len, [t], [.v (.slice none 0 0)] => (wo (layOf P t) fun l => l.kd.sl.isSome = true) ∧ K (.v (.int .i64 0)) σ
  | .len, [t], [.v (.string s)] => (wo (layOf P t) fun l => l.kd.isStr = true) ∧ K (.v (.int .i64 s.size)) σ
  | .append, [t, t'], [x, y] => t = t' ∧ wo (layOf P t) fun l => wo l.kd.sl fun e => wo (layOf P e) fun le => aappend σ e le.size le.bytes x y K
  | .max, _, [.v (.int k a), .v (.int k' b)] => k = k' ∧ K (.v (.int k (max a b))) σ
  | .min, _, [.v (.int k a), .v (.int k' b)] => k = k' ∧ K (.v (.int k (min a b))) σ
  | _, _, _ => False

def aop (P : Program) (ty : TypeId) (F : Fr) (σ : St) (K : D → St → Prop) : Op → Prop
  | .move x => K (ev F x) σ
  | .assign x => K (ev F x) σ
  | .pick c a b => match ev F c with | .v (.bool p) => K (if p then ev F a else ev F b) σ | _ => False
  | .alloc t => wo (layOf P t) fun l => ∀ b, Fresh σ b → K (.v (.pointer (some ⟨b, 0, none⟩))) (σ.setBox b (some (t, l.zero.map .v)))
  | .box t x => wo (ev F x).cells fun cs => ∀ b, Fresh σ b → K (.v (.pointer (some ⟨b, 0, none⟩))) (σ.setBox b (some (t, cs)))
  | .build t parts => wo (layOf P t) fun l => l.agg = true ∧ l.kd.isStrukt = true ∧ wo (abuild l.fields (parts.toList.map fun x => (x.1, ev F x.2)) (l.zero.map .v)) fun cs => K (.agg cs) σ
  | .buildSlice t n parts => wo (layOf P t) fun l => wo l.kd.sl fun e => wo (layOf P e) fun le => 0 < le.size ∧ n * le.size ≤ 16777216 ∧ parts.size = n ∧ wo (abuildS le.size 0 (parts.toList.map fun x => (x.1, ev F x.2))) fun ds => K (.slice none true le.size ds) σ
  | .load t x => wo (layOf P t) fun l => match ev F x with
    | .ptr cs => aload l cs fun d => K d σ
    | .v (.pointer (some ⟨b, o, none⟩)) => match σ.box b with | some (_, cs) => aload l (cs.drop o) fun d => K d σ | none => False
    | _ => False
  | .store t x y => wo (layOf P t) fun l => match ev F x with
    | .v (.pointer (some ⟨b, o, none⟩)) => match σ.box b with | some (T, cs) => wo (ev F y).cells fun xs => xs.length = l.size ∧ o + xs.length ≤ cs.length ∧ K .any (σ.setBox b (some (T, dput cs o xs))) | none => False
    | _ => False
  | .nilCheck x => match ev F x with
    | .ptr cs => K (.ptr cs) σ
    | .v (.pointer (some a)) => K (.v (.pointer (some a))) σ
    | _ => False
  | .binOp op t x y _ => abin P op t (isLit x || isLit y) (ev F x) (ev F y) fun d => K d σ
  | .unOp op _ x => match op, ev F x with
    | .not, .v (.bool b) => K (.v (.bool (!b))) σ
    | .neg, .v (.int k n) => K (.v (.int k (k.wrap (0 - n)))) σ
    | _, _ => False
  | .makeInterface t x => (wo (layOf P t) fun l => l.kd.ifc = false) ∧ K (.iface t (ev F x)) σ
  | .makeFunc fn first caps => match fn with | .func f => first = #[] ∧ K (.func f (caps.toList.map (ev F))) σ | _ => False
  | .fieldAddr s x f => wo (layOf P s) fun l => wo (l.fields[f]?) fun fo => fo.2.1 ≠ 0 ∧ match ev F x with
    | .ptr cs => K (.ptr (cs.drop fo.1)) σ
    | .v (.pointer (some ⟨b, o, none⟩)) => K (.v (.pointer (some ⟨b, o + fo.1, none⟩))) σ
    | _ => False
  | .field s x f => wo (layOf P s) fun l => wo (l.fields[f]?) fun fo => fo.2.1 ≠ 0 ∧ match ev F x with
    | .agg cs => if fo.2.2 then fo.1 + fo.2.1 ≤ cs.length ∧ K (.agg ((cs.drop fo.1).take fo.2.1)) σ else match cs.drop fo.1 with | d :: _ => K d σ | [] => False
    | _ => False
  | .indexAddr t x ix => wo (layOf P t) fun l => wo l.kd.sl fun e => wo (layOf P e) fun le => match (ev F x).list, ev F ix with
    | some (_, _, _, sz, ds), .v (.int _ n) => le.size = sz ∧ 0 ≤ n ∧ n < ds.length ∧ K (.ptr (ds.getD n.toNat [])) σ
    | _, _ => False
  | .index t x ix => (wo (layOf P t) fun l => l.kd.isStr = true) ∧ match ev F x, ev F ix with
    | .v (.string s), .v (.int _ n) => 0 ≤ n ∧ n < s.size ∧ K (.v (.int .u8 (s.data.toList.getD n.toNat 0).toNat)) σ
    | _, _ => False
  | .slice t x lo hi mx => wo (layOf P t) fun l => match l.kd, ev F x with
    | .str, .v (.string s) => mx = none ∧ match obound F 0 lo, obound F s.size hi with
      | some a, some b => 0 ≤ a ∧ a ≤ b ∧ b ≤ s.size ∧ K (.v (.string (s.extract a.toNat b.toNat))) σ
      | _, _ => False
    | .slice e, d => wo (layOf P e) fun le => match d.list, mx with
      | some (nl, tip, full, sz, ds), none => le.size = sz ∧ match obound F 0 lo, obound F ds.length hi with
        | some a, some b => 0 ≤ a ∧ a ≤ b ∧ b ≤ ds.length ∧ K (aslice nl tip full sz ds a.toNat b.toNat none) σ
        | _, _ => False
      | some (nl, tip, full, sz, ds), some m => le.size = sz ∧ hi.isSome = true ∧ match obound F 0 lo, obound F ds.length hi, ev F m with
        | some a, some b, .v (.int _ m) => 0 ≤ a ∧ a ≤ b ∧ b ≤ m ∧ m ≤ ds.length ∧ K (aslice nl tip full sz ds a.toNat b.toNat (some m.toNat)) σ
        | _, _, _ => False
      | none, _ => False
    | _, _ => False
  | .extract x k => match ev F x with
    | .tup ds => match ds[k]? with | some d => K d σ | none => False
    | _ => False
  | .call c => match c.callee with
    | .value x => match ev F x with
      | .v (.func (.func f) fs cs) => fs = #[] ∧ cs = #[] ∧ FnOk P f ∧ Tri P f (c.args.toList.map (ev F)) σ K
      | .func f caps => FnOk P f ∧ Tri P f (c.args.toList.map (ev F) ++ caps) σ K
      | _ => False
    | .builtin b => abuiltin P b c.argTypes.toList ty σ K (c.args.toList.map (ev F))
    | _ => False
  | _ => False
end Go.Proofs.Ytmpbofmhjjgccaa
