/-
  The arguments: summaries and a question, as they are read out of a row.
-/
import Derived.Test.YtmpbofmhjjgccaaFind
import Derived.Deep.Slices
import Derived.Deep.Fields
import Derived.ChangeSame
namespace Go.Proofs.Ytmpbofmhjjgccaa
open Go.RowKit
set_option maxRecDepth 100000
set_option linter.unusedVariables false

section
variable {H : Type}
/-- What the form's own reach says of a datum. -/
def Reached (P : Program) (t : TypeId) (d : DataW H) : Prop := ∀ m ∈ d.weights P t, m ≤ reachBytes
theorem reached_str {P : Program} {t : TypeId} {bs : List UInt8} (h : Reached P t (.lit (.string bs) : DataW H)) : bs.length ≤ reachBytes := h _ (by simp [DataW.weights])
theorem weightsAll_mem {P : Program} {e : TypeId} {m : Nat} : ∀ {ds : List (DataW H)} {d : DataW H}, d ∈ ds → m ∈ d.weights P e → m ∈ DataW.weightsAll P e ds
  | x :: r, d, hd, hm => by
    simp only [DataW.weightsAll, List.mem_append]
    rcases List.mem_cons.1 hd with rfl | hd
    · exact .inl hm
    · exact .inr (weightsAll_mem hd hm)
theorem reached_elem {P : Program} {t e : TypeId} (hu : P.underlying t = some (.slice e)) {elems spare : List (DataW H)} (h : Reached P t (.slice elems spare)) {d : DataW H} (hd : d ∈ elems) : Reached P e d := fun m hm => by
  refine h m ?_
  simp only [DataW.weights, hu, List.mem_cons, List.mem_append]
  exact .inr (.inl (weightsAll_mem hd hm))
theorem reached_field {P : Program} {t : TypeId} {fs : Array Field} (hu : P.underlying t = some (.struct fs)) {parts : List (DataW H)} (h : Reached P t (.agg parts)) {i : Nat} {ty : TypeId} {d : DataW H} (h1 : (fs.toList.map (·.type))[i]? = some ty) (h2 : parts[i]? = some d) : Reached P ty d := fun m hm => by
  refine h m ?_
  simp only [DataW.weights, hu]
  exact DataW.weights_mem_each h1 h2 m hm
theorem reached_arg {P : Program} {ts : List TypeId} {ds : List (DataW H)} (h : (DataW.weightsEach P ts ds).all (· ≤ reachBytes) = true) {j : Nat} {t : TypeId} {d : DataW H} (ht : ts[j]? = some t) (hd : ds[j]? = some d) : Reached P t d := fun m hm => by
  have := List.all_eq_true.1 h _ (DataW.weights_mem_each ht hd m hm)
  simpa using this
end
section
open Go.ChangeShapes Go.WideShapes Go.Deep
variable {H : Type} {enc : TypeId × Value → H} {w : World} {base : Nat} {spare : Nat → Bool} {held : Bool}
theorem strs_of_trod {fuel : Nat} {cs : List Value} {x : DataW H × List MemPlace} (h : DataW.trod enc Try.prog w base spare held fuel 23 cs = some x) :
    ∃ (p : Option Addr) (zs : List ByteArray) (c : Nat), cs = [.slice p zs.length c] ∧ zs.length ≤ c ∧ c ≤ maxLen ∧ StrsAt w p zs ∧ (∀ z ∈ zs, z.size ≤ maxLen) ∧ (Reached Try.prog 23 x.1 → ∀ z ∈ zs, z.size ≤ reachBytes) := by
  rcases open_slice1 Try.underlying23 (by kernel_rfl) h with ⟨rfl, _⟩ | ⟨a, len, cap, m, n, V, D, Pl, rfl, hb, hl, hm, hmm, rfl, hx⟩
  · exact ⟨none, [], 0, rfl, Nat.le_refl _, Nat.zero_le _, fun j s hj => by simp at hj, fun z hz => by simp at hz, fun _ z hz => by simp at hz⟩
  · have hlm : len ≤ m := by rw [hmm]; split <;> omega
    have hV : ∀ i, i < len → ∃ u : ByteArray, V i = .string u ∧ u.size ≤ maxLen ∧ D i = .lit (.string u.data.toList) := by
      intro i hi
      obtain ⟨_, h2⟩ := hx i (by omega)
      obtain ⟨z, h3, h5, h4⟩ := DataW.trod_string Try.underlying9 h2
      injection h3 with h3 _
      injection h5 with h5 _
      exact ⟨z, h3, h4, h5⟩
    haveI : Inhabited ByteArray := ⟨ByteArray.empty⟩
    obtain ⟨f, hf⟩ := choose_lt hV
    refine ⟨some a, (List.range len).map f, cap, by simp, by simpa using hl, hm, fun j s hj => ?_, fun z hz => ?_, fun hr z hz => ?_⟩
    · have hjl : j < len := by
        have := (List.getElem?_eq_some_iff.1 hj).1
        simpa using this
      simp [hjl] at hj
      exact ⟨a, rfl, by rw [(hx j (by omega)).1, (hf j hjl).1, hj]⟩
    · obtain ⟨i, hi, rfl⟩ := List.mem_map.1 hz
      exact (hf i (List.mem_range.1 hi)).2.1
    · obtain ⟨i, hi, rfl⟩ := List.mem_map.1 hz
      have hi := List.mem_range.1 hi
      have h1 := reached_elem Try.underlying23 hr (d := D i) (List.mem_map.2 ⟨i, List.mem_range.2 hi, rfl⟩)
      rw [(hf i hi).2.2] at h1
      exact (show (f i).data.toList.length = (f i).size by simp) ▸ reached_str h1
end

/-- Its cells. -/
def SV.Cells (w : World) (cs : List Value) (x : SV) : Prop := cs = [.string x.room, .string x.typ, .string x.name, .string x.topic, .string x.alias, .string x.avatar, .string x.rule, .int .i64 x.joined, .bool x.readable, .bool x.guests]
theorem SV.Cells.below {w w' : World} {cs : List Value} {x : SV} (h : SV.Cells w cs x) (hb : Below w.heap.size w w') : SV.Cells w' cs x := h
theorem SV.Cells.len {w : World} {cs : List Value} {x : SV} (h : SV.Cells w cs x) : cs.length = 10 := by
  rw [show cs = _ from h]
  rfl
def SVAt (w : World) (a : Addr) (x : SV) : Prop := ∃ cs, SV.Cells w cs x ∧ ∀ j v, cs[j]? = some v → w.cell? (a.add j) = some v
theorem SVAt.below {w w' : World} {a : Addr} {x : SV} (h : SVAt w a x) (hb : Below w.heap.size w w') : SVAt w' a x := by
  obtain ⟨cs, h1, h2⟩ := h
  exact ⟨cs, h1.below hb, fun j v hj => (hb.cell (World.block_lt_of_cell? w _ (h2 j v hj))).trans (h2 j v hj)⟩
def SVsAt (w : World) (p : Option Addr) (l : List SV) : Prop := ∀ i x, l[i]? = some x → ∃ a, p = some a ∧ SVAt w (a.add (i * 10)) x
theorem SVsAt.below {w w' : World} {p : Option Addr} {l : List SV} (h : SVsAt w p l) (hb : Below w.heap.size w w') : SVsAt w' p l := fun i x hi => by
  obtain ⟨a, h1, h2⟩ := h i x hi
  exact ⟨a, h1, h2.below hb⟩
/-- Its bounds. -/
structure SV.Good (x : SV) : Prop where
  room : x.room.size ≤ maxLen
  typ : x.typ.size ≤ maxLen
  name : x.name.size ≤ maxLen
  topic : x.topic.size ≤ maxLen
  alias : x.alias.size ≤ maxLen
  avatar : x.avatar.size ≤ maxLen
  rule : x.rule.size ≤ maxLen
  joined : (Lit.int .i64 x.joined).wf = true
/-- What the form's reach says of it. -/
structure SV.Fits (x : SV) : Prop where
  room : x.room.size ≤ reachBytes
  typ : x.typ.size ≤ reachBytes
  name : x.name.size ≤ reachBytes
  topic : x.topic.size ≤ reachBytes
  alias : x.alias.size ≤ reachBytes
  avatar : x.avatar.size ≤ reachBytes
  rule : x.rule.size ≤ reachBytes
theorem SV_list {α : Type} : ∀ {l : List α}, l.length = 10 → ∃ a0 a1 a2 a3 a4 a5 a6 a7 a8 a9, l = [a0, a1, a2, a3, a4, a5, a6, a7, a8, a9]
  | [a0, a1, a2, a3, a4, a5, a6, a7, a8, a9], _ => ⟨a0, a1, a2, a3, a4, a5, a6, a7, a8, a9, rfl⟩
section
open Go.ChangeShapes Go.WideShapes Go.Deep
variable {H : Type} {enc : TypeId × Value → H} {w : World} {base : Nat} {spare : Nat → Bool} {held : Bool}
theorem SV_of_trod {fuel : Nat} {cs : List Value} {x : DataW H × List MemPlace} (h : DataW.trod enc Try.prog w base spare held fuel 39 cs = some x) :
    ∃ v : SV, SV.Cells w cs v ∧ SV.Good v ∧ (Reached Try.prog 39 x.1 → SV.Fits v) := by
  obtain ⟨xs, n', _, rfl, hlen, hxl, hf⟩ := DataW.trod_struct Try.underlying39 h
  have hlen' : cs.length = 10 := hlen.trans (by kernel_rfl)
  have hx3 : xs.length = 10 := hxl
  have g0 := hf 0 _ rfl
  have g1 := hf 1 _ rfl
  have g2 := hf 2 _ rfl
  have g3 := hf 3 _ rfl
  have g4 := hf 4 _ rfl
  have g5 := hf 5 _ rfl
  have g6 := hf 6 _ rfl
  have g7 := hf 7 _ rfl
  have g8 := hf 8 _ rfl
  have g9 := hf 9 _ rfl
  clear hf hxl h hlen
  obtain ⟨y0, y1, y2, y3, y4, y5, y6, y7, y8, y9, rfl⟩ := SV_list hx3
  obtain ⟨x0, x1, x2, x3, x4, x5, x6, x7, x8, x9, rfl⟩ := SV_list hlen'
  change DataW.trod enc Try.prog w base spare held n' 9 (([x0, x1, x2, x3, x4, x5, x6, x7, x8, x9].drop 0).take (Program.cellsOf Try.prog 9)) = some y0 at g0
  change DataW.trod enc Try.prog w base spare held n' 9 (([x0, x1, x2, x3, x4, x5, x6, x7, x8, x9].drop 1).take (Program.cellsOf Try.prog 9)) = some y1 at g1
  change DataW.trod enc Try.prog w base spare held n' 9 (([x0, x1, x2, x3, x4, x5, x6, x7, x8, x9].drop 2).take (Program.cellsOf Try.prog 9)) = some y2 at g2
  change DataW.trod enc Try.prog w base spare held n' 9 (([x0, x1, x2, x3, x4, x5, x6, x7, x8, x9].drop 3).take (Program.cellsOf Try.prog 9)) = some y3 at g3
  change DataW.trod enc Try.prog w base spare held n' 9 (([x0, x1, x2, x3, x4, x5, x6, x7, x8, x9].drop 4).take (Program.cellsOf Try.prog 9)) = some y4 at g4
  change DataW.trod enc Try.prog w base spare held n' 9 (([x0, x1, x2, x3, x4, x5, x6, x7, x8, x9].drop 5).take (Program.cellsOf Try.prog 9)) = some y5 at g5
  change DataW.trod enc Try.prog w base spare held n' 9 (([x0, x1, x2, x3, x4, x5, x6, x7, x8, x9].drop 6).take (Program.cellsOf Try.prog 9)) = some y6 at g6
  change DataW.trod enc Try.prog w base spare held n' 3 (([x0, x1, x2, x3, x4, x5, x6, x7, x8, x9].drop 7).take (Program.cellsOf Try.prog 3)) = some y7 at g7
  change DataW.trod enc Try.prog w base spare held n' 4 (([x0, x1, x2, x3, x4, x5, x6, x7, x8, x9].drop 8).take (Program.cellsOf Try.prog 4)) = some y8 at g8
  change DataW.trod enc Try.prog w base spare held n' 4 (([x0, x1, x2, x3, x4, x5, x6, x7, x8, x9].drop 9).take (Program.cellsOf Try.prog 4)) = some y9 at g9
  have e0 : Program.cellsOf Try.prog 9 = 1 := by kernel_rfl
  have e1 : Program.cellsOf Try.prog 3 = 1 := by kernel_rfl
  have e2 : Program.cellsOf Try.prog 4 = 1 := by kernel_rfl
  simp only [e0, e1, e2, List.drop_succ_cons, List.drop_zero, List.take_succ_cons, List.take_zero] at g0 g1 g2 g3 g4 g5 g6 g7 g8 g9
  obtain ⟨z0, f0, rfl, w0⟩ := DataW.trod_string Try.underlying9 g0
  injection f0 with f0 _
  subst f0
  obtain ⟨z1, f1, rfl, w1⟩ := DataW.trod_string Try.underlying9 g1
  injection f1 with f1 _
  subst f1
  obtain ⟨z2, f2, rfl, w2⟩ := DataW.trod_string Try.underlying9 g2
  injection f2 with f2 _
  subst f2
  obtain ⟨z3, f3, rfl, w3⟩ := DataW.trod_string Try.underlying9 g3
  injection f3 with f3 _
  subst f3
  obtain ⟨z4, f4, rfl, w4⟩ := DataW.trod_string Try.underlying9 g4
  injection f4 with f4 _
  subst f4
  obtain ⟨z5, f5, rfl, w5⟩ := DataW.trod_string Try.underlying9 g5
  injection f5 with f5 _
  subst f5
  obtain ⟨z6, f6, rfl, w6⟩ := DataW.trod_string Try.underlying9 g6
  injection f6 with f6 _
  subst f6
  obtain ⟨z7, f7, _, w7⟩ := DataW.trod_int Try.underlying3 g7
  injection f7 with f7 _
  subst f7
  obtain ⟨z8, f8, _⟩ := DataW.trod_bool Try.underlying4 g8
  injection f8 with f8 _
  subst f8
  obtain ⟨z9, f9, _⟩ := DataW.trod_bool Try.underlying4 g9
  injection f9 with f9 _
  subst f9
  exact ⟨⟨z0, z1, z2, z3, z4, z5, z6, z7, z8, z9⟩, rfl, ⟨w0, w1, w2, w3, w4, w5, w6, w7⟩, fun hr => ⟨(show z0.data.toList.length = z0.size by simp) ▸ reached_str (reached_field Try.underlying39 hr (i := 0) rfl rfl), (show z1.data.toList.length = z1.size by simp) ▸ reached_str (reached_field Try.underlying39 hr (i := 1) rfl rfl), (show z2.data.toList.length = z2.size by simp) ▸ reached_str (reached_field Try.underlying39 hr (i := 2) rfl rfl), (show z3.data.toList.length = z3.size by simp) ▸ reached_str (reached_field Try.underlying39 hr (i := 3) rfl rfl), (show z4.data.toList.length = z4.size by simp) ▸ reached_str (reached_field Try.underlying39 hr (i := 4) rfl rfl), (show z5.data.toList.length = z5.size by simp) ▸ reached_str (reached_field Try.underlying39 hr (i := 5) rfl rfl), (show z6.data.toList.length = z6.size by simp) ▸ reached_str (reached_field Try.underlying39 hr (i := 6) rfl rfl)⟩⟩
theorem SVs_of_trod {fuel : Nat} {cs : List Value} {x : DataW H × List MemPlace} (h : DataW.trod enc Try.prog w base spare held fuel 22 cs = some x) :
    ∃ (p : Option Addr) (l : List SV) (c : Nat), cs = [.slice p l.length c] ∧ l.length ≤ c ∧ c ≤ maxLen ∧ SVsAt w p l ∧ (∀ x ∈ l, SV.Good x) ∧ (Reached Try.prog 22 x.1 → ∀ x ∈ l, SV.Fits x) := by
  rcases open_slice Try.underlying22 h with ⟨rfl, _⟩ | ⟨a, len, cap, m, n, D, Pl, rfl, hb, hl, hm, hmm, rfl, hx⟩
  · exact ⟨none, [], 0, rfl, Nat.le_refl _, Nat.zero_le _, fun i x hi => by simp at hi, fun x hx => by simp at hx, fun _ x hx => by simp at hx⟩
  · have hlm : len ≤ m := by rw [hmm]; split <;> omega
    have hV : ∀ i, i < len → ∃ v : SV, SVAt w (a.add (i * 10)) v ∧ SV.Good v ∧ (Reached Try.prog 39 (D i) → SV.Fits v) := by
      intro i hi
      obtain ⟨cs', h1, h2⟩ := hx i (by omega)
      have hc3 : Program.cellsOf Try.prog 39 = 10 := by kernel_rfl
      rw [hc3] at h1
      obtain ⟨_, hlen, hat⟩ := World.cells?_some h1
      obtain ⟨v, h3, h4, h5⟩ := SV_of_trod h2
      refine ⟨v, ⟨cs', h3, fun j u hj => ?_⟩, h4, h5⟩
      have hjl : j < 10 := by rw [← hlen]; exact (List.getElem?_eq_some_iff.1 hj).1
      exact (hat j hjl).trans hj
    haveI : Inhabited SV := ⟨⟨ByteArray.empty, ByteArray.empty, ByteArray.empty, ByteArray.empty, ByteArray.empty, ByteArray.empty, ByteArray.empty, 0, false, false⟩⟩
    obtain ⟨f, hf⟩ := choose_lt hV
    refine ⟨some a, (List.range len).map f, cap, by simp, by simpa using hl, hm, fun i x hi => ?_, fun x hx => ?_, fun hr x hx => ?_⟩
    · have hil : i < len := by
        have := (List.getElem?_eq_some_iff.1 hi).1
        simpa using this
      simp [hil] at hi
      exact ⟨a, rfl, hi ▸ (hf i hil).1⟩
    · obtain ⟨i, hi, rfl⟩ := List.mem_map.1 hx
      exact (hf i (List.mem_range.1 hi)).2.1
    · obtain ⟨i, hi, rfl⟩ := List.mem_map.1 hx
      have hi := List.mem_range.1 hi
      exact (hf i hi).2.2 (reached_elem Try.underlying22 hr (d := D i) (List.mem_map.2 ⟨i, List.mem_range.2 hi, rfl⟩))
end

/-- Its cells. -/
def QV.Cells (w : World) (cs : List Value) (x : QV) : Prop := ∃ (p1 : Option Addr) (c1 : Nat), cs = [.string x.term, .slice p1 x.types.length c1, .int .i64 x.limit, .int .i64 x.since] ∧ x.types.length ≤ c1 ∧ c1 ≤ maxLen ∧ StrsAt w p1 x.types
theorem QV.Cells.below {w w' : World} {cs : List Value} {x : QV} (h : QV.Cells w cs x) (hb : Below w.heap.size w w') : QV.Cells w' cs x := by
  obtain ⟨p1, c1, e, a1, b1, d1⟩ := h
  exact ⟨p1, c1, e, a1, b1, d1.below hb⟩
theorem QV.Cells.len {w : World} {cs : List Value} {x : QV} (h : QV.Cells w cs x) : cs.length = 4 := by
  obtain ⟨p1, c1, rfl, _⟩ := h
  rfl
def QVAt (w : World) (a : Addr) (x : QV) : Prop := ∃ cs, QV.Cells w cs x ∧ ∀ j v, cs[j]? = some v → w.cell? (a.add j) = some v
theorem QVAt.below {w w' : World} {a : Addr} {x : QV} (h : QVAt w a x) (hb : Below w.heap.size w w') : QVAt w' a x := by
  obtain ⟨cs, h1, h2⟩ := h
  exact ⟨cs, h1.below hb, fun j v hj => (hb.cell (World.block_lt_of_cell? w _ (h2 j v hj))).trans (h2 j v hj)⟩
def QVsAt (w : World) (p : Option Addr) (l : List QV) : Prop := ∀ i x, l[i]? = some x → ∃ a, p = some a ∧ QVAt w (a.add (i * 4)) x
theorem QVsAt.below {w w' : World} {p : Option Addr} {l : List QV} (h : QVsAt w p l) (hb : Below w.heap.size w w') : QVsAt w' p l := fun i x hi => by
  obtain ⟨a, h1, h2⟩ := h i x hi
  exact ⟨a, h1, h2.below hb⟩
/-- Its bounds. -/
structure QV.Good (x : QV) : Prop where
  term : x.term.size ≤ maxLen
  types : ∀ z ∈ x.types, z.size ≤ maxLen
  limit : (Lit.int .i64 x.limit).wf = true
  since : (Lit.int .i64 x.since).wf = true
/-- What the form's reach says of it. -/
structure QV.Fits (x : QV) : Prop where
  term : x.term.size ≤ reachBytes
  types : ∀ z ∈ x.types, z.size ≤ reachBytes
theorem QV_list {α : Type} : ∀ {l : List α}, l.length = 4 → ∃ a0 a1 a2 a3, l = [a0, a1, a2, a3]
  | [a0, a1, a2, a3], _ => ⟨a0, a1, a2, a3, rfl⟩
section
open Go.ChangeShapes Go.WideShapes Go.Deep
variable {H : Type} {enc : TypeId × Value → H} {w : World} {base : Nat} {spare : Nat → Bool} {held : Bool}
theorem QV_of_trod {fuel : Nat} {cs : List Value} {x : DataW H × List MemPlace} (h : DataW.trod enc Try.prog w base spare held fuel 25 cs = some x) :
    ∃ v : QV, QV.Cells w cs v ∧ QV.Good v ∧ (Reached Try.prog 25 x.1 → QV.Fits v) := by
  obtain ⟨xs, n', _, rfl, hlen, hxl, hf⟩ := DataW.trod_struct Try.underlying25 h
  have hlen' : cs.length = 4 := hlen.trans (by kernel_rfl)
  have hx3 : xs.length = 4 := hxl
  have g0 := hf 0 _ rfl
  have g1 := hf 1 _ rfl
  have g2 := hf 2 _ rfl
  have g3 := hf 3 _ rfl
  clear hf hxl h hlen
  obtain ⟨y0, y1, y2, y3, rfl⟩ := QV_list hx3
  obtain ⟨x0, x1, x2, x3, rfl⟩ := QV_list hlen'
  change DataW.trod enc Try.prog w base spare held n' 9 (([x0, x1, x2, x3].drop 0).take (Program.cellsOf Try.prog 9)) = some y0 at g0
  change DataW.trod enc Try.prog w base spare held n' 23 (([x0, x1, x2, x3].drop 1).take (Program.cellsOf Try.prog 23)) = some y1 at g1
  change DataW.trod enc Try.prog w base spare held n' 3 (([x0, x1, x2, x3].drop 2).take (Program.cellsOf Try.prog 3)) = some y2 at g2
  change DataW.trod enc Try.prog w base spare held n' 3 (([x0, x1, x2, x3].drop 3).take (Program.cellsOf Try.prog 3)) = some y3 at g3
  have e0 : Program.cellsOf Try.prog 9 = 1 := by kernel_rfl
  have e1 : Program.cellsOf Try.prog 23 = 1 := by kernel_rfl
  have e2 : Program.cellsOf Try.prog 3 = 1 := by kernel_rfl
  simp only [e0, e1, e2, List.drop_succ_cons, List.drop_zero, List.take_succ_cons, List.take_zero] at g0 g1 g2 g3
  obtain ⟨z0, f0, rfl, w0⟩ := DataW.trod_string Try.underlying9 g0
  injection f0 with f0 _
  subst f0
  obtain ⟨p1, z1, c1, f1, a1, b1, d1, w1, r1⟩ := strs_of_trod g1
  injection f1 with f1 _
  subst f1
  obtain ⟨z2, f2, _, w2⟩ := DataW.trod_int Try.underlying3 g2
  injection f2 with f2 _
  subst f2
  obtain ⟨z3, f3, _, w3⟩ := DataW.trod_int Try.underlying3 g3
  injection f3 with f3 _
  subst f3
  exact ⟨⟨z0, z1, z2, z3⟩, ⟨p1, c1, rfl, a1, b1, d1⟩, ⟨w0, w1, w2, w3⟩, fun hr => ⟨(show z0.data.toList.length = z0.size by simp) ▸ reached_str (reached_field Try.underlying25 hr (i := 0) rfl rfl), r1 (reached_field Try.underlying25 hr (i := 1) rfl rfl)⟩⟩
end

end Go.Proofs.Ytmpbofmhjjgccaa
