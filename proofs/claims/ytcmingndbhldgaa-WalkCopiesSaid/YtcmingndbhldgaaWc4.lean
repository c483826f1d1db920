/-
  The row of the law WalkCopies: it holds for every input.
-/
import Derived.Test.YtcmingndbhldgaaWc2
import Derived.Deep.Slices
import Derived.Deep.Fields
import Derived.ChangeSame
import Derived.SizedLaws
import Derived.Test.YtcmingndbhldgaaWc3
import Derived.Test.YtcmingndbhldgaaWc1
import Derived.HandedShaped
/-
  Arguments as they are read out of a row, over the logic.
-/
namespace Go.Proofs.Ytcmingndbhldgaa
open Go.RowKit Go.ChangeShapes Go.WideShapes
set_option maxRecDepth 100000
set_option linter.unusedVariables false
set_option linter.unusedSimpArgs false

/-- What the form's own reach says of a datum. -/
def Reached {H : Type} (P : Program) (t : TypeId) (d : DataW H) : Prop := ∀ m ∈ d.weights P t, m ≤ reachBytes
section
variable {H : Type}
theorem reached_str {P : Program} {t : TypeId} {bs : List UInt8} (h : Reached P t (.lit (.string bs) : DataW H)) : bs.length ≤ reachBytes := h _ (by simp [DataW.weights])
theorem weightsAll_mem {P : Program} {e : TypeId} {m : Nat} : ∀ {ds : List (DataW H)} {d : DataW H}, d ∈ ds → m ∈ d.weights P e → m ∈ DataW.weightsAll P e ds
  | x :: r, d, hd, hm => by
    simp only [DataW.weightsAll, List.mem_append]
    rcases List.mem_cons.1 hd with rfl | hd
    · exact .inl hm
    · exact .inr (weightsAll_mem hd hm)
theorem reached_elem {P : Program} {t e : TypeId} (hu : P.underlying t = some (.slice e)) {elems spare : List (DataW H)} (h : Reached P t (.slice elems spare)) {d : DataW H} (hd : d ∈ elems) : Reached P e d := fun m hm => by
  refine h m ?_
  simp only [DataW.weights, hu, List.mem_cons, List.mem_append]
  exact .inr (.inl (weightsAll_mem hd hm))
theorem reached_len {P : Program} {t e : TypeId} (hu : P.underlying t = some (.slice e)) {elems spare : List (DataW H)} (h : Reached P t (.slice elems spare)) : elems.length * P.bytesOf e ≤ reachBytes := by
  have := h ((elems.length + spare.length) * P.bytesOf e) (by simp [DataW.weights, hu])
  exact Nat.le_trans (Nat.mul_le_mul_right _ (Nat.le_add_right _ _)) this
theorem reached_field {P : Program} {t : TypeId} {fs : Array Field} (hu : P.underlying t = some (.struct fs)) {parts : List (DataW H)} (h : Reached P t (.agg parts)) {i : Nat} {ty : TypeId} {d : DataW H} (h1 : (fs.toList.map (·.type))[i]? = some ty) (h2 : parts[i]? = some d) : Reached P ty d := fun m hm => by
  refine h m ?_
  simp only [DataW.weights, hu]
  exact DataW.weights_mem_each h1 h2 m hm
theorem reached_arg {P : Program} {ts : List TypeId} {ds : List (DataW H)} (h : (DataW.weightsEach P ts ds).all (· ≤ reachBytes) = true) {j : Nat} {t : TypeId} {d : DataW H} (ht : ts[j]? = some t) (hd : ds[j]? = some d) : Reached P t d := fun m hm => by
  have := List.all_eq_true.1 h _ (DataW.weights_mem_each ht hd m hm)
  simpa using this
end
/-- What is read as a type, with so much fuel. -/
def Rd (P : Program) (N : Nat) (t : TypeId) {α : Type} (cells : α → List D) (fits : α → Prop) : Prop :=
  ∀ {H : Type} (enc : TypeId × Value → H) (w : World) (base : Nat) (spare : Nat → Bool) (held : Bool) (fuel : Nat) (cs : List Value) (x : DataW H × List MemPlace), fuel ≤ N → DataW.trod enc P w base spare held fuel t cs = some x →
    ∃ a : α, RepL (Gh.of w) cs (cells a) ∧ (∀ v ∈ cs, v.oneCell' = true) ∧ (Reached P t x.1 → fits a)
theorem Rd.mono {P : Program} {N M : Nat} {t : TypeId} {α : Type} {cells : α → List D} {fits : α → Prop} (h : Rd P N t cells fits) (hm : M ≤ N) : Rd P M t cells fits := fun enc w base spare held fuel cs x hf => h enc w base spare held fuel cs x (Nat.le_trans hf hm)
theorem repL1 {G : Gh} {v : Value} {d : D} (h : Rep G v d) : RepL G [v] [d] := (RepL.nil G).cons h
theorem Rd.int {P : Program} {N : Nat} {t : TypeId} (ht : P.underlying t = some (.int .i64)) : Rd P N t (fun n : Int => [.i n]) (fun _ => True) := fun enc w base spare held fuel cs x _ h => by
  obtain ⟨n, rfl, _, _⟩ := DataW.trod_int ht h
  exact ⟨n, repL1 (.v _), by simp [Value.oneCell'], fun _ => trivial⟩
theorem Rd.bool {P : Program} {N : Nat} {t : TypeId} (ht : P.underlying t = some .bool) : Rd P N t (fun b : Bool => [.b b]) (fun _ => True) := fun enc w base spare held fuel cs x _ h => by
  obtain ⟨n, rfl, _⟩ := DataW.trod_bool ht h
  exact ⟨n, repL1 (.v _), by simp [Value.oneCell'], fun _ => trivial⟩
theorem Rd.str {P : Program} {N : Nat} {t : TypeId} (ht : P.underlying t = some .string) : Rd P N t (fun s : ByteArray => [.s s]) (fun s => s.size ≤ reachBytes) := fun enc w base spare held fuel cs x _ h => by
  obtain ⟨s, rfl, rfl, _⟩ := DataW.trod_string ht h
  exact ⟨s, repL1 (.v _), by simp [Value.oneCell'], fun hr => by have := reached_str hr; simpa using this⟩
theorem list_lt {α : Type} : ∀ {n : Nat} {p : Nat → α → Prop}, (∀ i, i < n → ∃ a, p i a) → ∃ l : List α, l.length = n ∧ ∀ i a, l[i]? = some a → p i a
  | 0, p, _ => ⟨[], rfl, fun i a h => by simp at h⟩
  | n + 1, p, h => by
    obtain ⟨l, hl, hp⟩ := list_lt (n := n) (p := p) fun i hi => h i (by omega)
    obtain ⟨a, ha⟩ := h n (by omega)
    refine ⟨l ++ [a], by simp [hl], fun i b hb => ?_⟩
    by_cases hi : i < l.length
    · rw [List.getElem?_append_left hi] at hb
      exact hp i b hb
    · have hi2 : i = l.length := by
        have := (List.getElem?_eq_some_iff.1 hb).1
        simp at this
        omega
      subst hi2
      simp at hb
      rw [← hb, hl]
      exact ha
theorem flat_at {α : Type} {sz : Nat} (hz : 0 < sz) : ∀ (yss : List (List α)) (k : Nat) (u : α), (∀ ys ∈ yss, ys.length = sz) → yss.flatten[k]? = some u → ∃ ys, yss[k / sz]? = some ys ∧ ys[k % sz]? = some u
  | [], k, u, _, h => by simp at h
  | ys :: yss, k, u, hs, h => by
    have hl : ys.length = sz := hs ys (by simp)
    by_cases hk : k < sz
    · rw [List.flatten_cons, List.getElem?_append_left (by omega)] at h
      refine ⟨ys, by rw [Nat.div_eq_of_lt hk]; rfl, by rw [Nat.mod_eq_of_lt hk]; exact h⟩
    · rw [List.flatten_cons, List.getElem?_append_right (by omega), hl] at h
      obtain ⟨zs, h1, h2⟩ := flat_at hz yss (k - sz) u (fun y hy => hs y (by simp [hy])) h
      have hk' : k = (k - sz) + sz := by omega
      refine ⟨zs, ?_, ?_⟩
      · rw [hk', Nat.add_div_right _ hz]; simpa using h1
      · rw [hk', Nat.add_mod_right]; exact h2
theorem cell_spot {w : World} {a : Addr} {v : Value} (h : w.cell? a = some v) : a.spot = none := by
  unfold World.cell? at h
  split at h
  · split at h
    · cases h
    · rename_i hs
      cases hq : a.spot with
      | none => rfl
      | some x => rw [hq] at hs; simp at hs
  · cases h
theorem gh_cell {w : World} {b o : Nat} {v : Value} (h : w.cell? ⟨b, o, none⟩ = some v) (h1 : v.oneCell' = true) : Gh.of w b o = some v := by
  unfold Gh.of
  rw [h]
  simp [h1]
theorem Rd.slice {P : Program} {N : Nat} {t e : TypeId} {α : Type} {cells : α → List D} {fits : α → Prop} {sz by_ : Nat} (ht : P.underlying t = some (.slice e)) (hc : P.cellsOf e = sz) (hby : P.bytesOf e = by_) (hpos : 0 < sz) (hsz : ∀ a, (cells a).length = sz) (R : Rd P N e cells fits) :
    Rd P (N + 1) t (fun l : List α => [.lst false sz (l.map cells)]) (fun l => l.length * by_ ≤ reachBytes ∧ ∀ a ∈ l, fits a) := fun enc w base spare held fuel cs x hf h => by
  rcases DataW.trod_slice ht h with ⟨rfl, rfl⟩ | ⟨a, len, cap, elems, rest, n, rfl, rfl, rfl, hb, hl, hm, hlen, hel, _⟩
  · exact ⟨[], repL1 (.lst0 _ _), by simp [Value.oneCell'], fun _ => ⟨by simp, by simp⟩⟩
  · have hV : ∀ i, i < len → ∃ v : α, ∃ cs', w.cells? base (a.add (i * sz)) sz = some cs' ∧ RepL (Gh.of w) cs' (cells v) ∧ (∀ u ∈ cs', u.oneCell' = true) ∧ (Reached P t (.slice (elems.map (·.1)) (rest.map (·.1))) → fits v) := by
      intro i hi
      have h1 := hel i hi
      have hie : i < elems.length := by omega
      rw [hc, List.getElem?_eq_getElem hie] at h1
      obtain ⟨cs', h2, h3⟩ := Option.bind_eq_some_iff.1 h1
      obtain ⟨v, k1, k2, k3⟩ := R enc w base spare held n cs' _ (by omega) h3
      exact ⟨v, cs', h2, k1, k2, fun hr => k3 (reached_elem ht hr (List.mem_map.2 ⟨elems[i], List.getElem_mem hie, rfl⟩))⟩
    obtain ⟨l, hll, hp⟩ := list_lt hV
    refine ⟨l, ?_, by simp [Value.oneCell'], fun hr => ⟨?_, fun v hv => ?_⟩⟩
    · have hspot : l ≠ [] → a.spot = none := fun hne => by
        have h0 : 0 < l.length := List.length_pos_iff.2 hne
        obtain ⟨cs', h1, h2, _⟩ := hp 0 _ (List.getElem?_eq_getElem h0)
        obtain ⟨_, h3, h4⟩ := World.cells?_some h1
        have h5 := h4 0 hpos
        rw [List.getElem?_eq_getElem (by omega)] at h5
        have := cell_spot h5
        simpa [Addr.add] using this
      have hcell : ∀ k, k < l.length * sz → ∃ v, w.cell? ⟨a.block, a.off + k, none⟩ = some v ∧ v.oneCell' = true ∧ ∀ d, (l.map cells).flatten[k]? = some d → Rep (Gh.of w) v d := by
        intro k hk
        have hi : k / sz < l.length := (Nat.div_lt_iff_lt_mul hpos).2 hk
        have hj : k % sz < sz := Nat.mod_lt _ hpos
        have hsp := hspot (by rintro rfl; simp at hi)
        obtain ⟨cs', h1, h2, h3, _⟩ := hp (k / sz) _ (List.getElem?_eq_getElem hi)
        obtain ⟨_, h4, h5⟩ := World.cells?_some h1
        have h6 := h5 (k % sz) hj
        rw [List.getElem?_eq_getElem (by omega)] at h6
        have he : (a.add (k / sz * sz)).add (k % sz) = ⟨a.block, a.off + k, none⟩ := by
          have hk' : k / sz * sz + k % sz = k := Nat.div_add_mod' k sz
          obtain ⟨b, o, sp⟩ := a
          simp only at hsp
          subst hsp
          unfold Addr.add
          split <;> split <;> simp_all <;> omega
        rw [he] at h6
        refine ⟨_, h6, h3 _ (List.getElem_mem _), fun d hd => ?_⟩
        obtain ⟨ys, h7, h8⟩ := flat_at hpos _ k d (fun ys hy => by obtain ⟨v, _, rfl⟩ := List.mem_map.1 hy; exact hsz v) hd
        rw [List.getElem?_map, List.getElem?_eq_getElem hi] at h7
        injection h7 with h7
        subst h7
        exact h2.rep (k % sz) _ d (List.getElem?_eq_getElem (by omega)) h8
      have := Rep.slice (G := Gh.of w) a cap none false sz (l.map cells) (fun k => (w.cell? ⟨a.block, a.off + k, none⟩).getD undef) (fun hne => hspot (by rintro rfl; exact hne rfl)) (by rw [List.length_map, hll]; exact hl) (by simp)
        (fun ys hy => by obtain ⟨v, _, rfl⟩ := List.mem_map.1 hy; exact hsz v)
        (fun k hk => by
          rw [List.length_map] at hk
          obtain ⟨v, h1, h2, _⟩ := hcell k hk
          rw [h1]
          exact gh_cell h1 h2)
        (fun k d hd => by
          have hk : k < l.length * sz := by
            have := (List.getElem?_eq_some_iff.1 hd).1
            rwa [flat_len (sz := sz) _ (fun ys hy => by obtain ⟨v, _, rfl⟩ := List.mem_map.1 hy; exact hsz v), List.length_map] at this
          obtain ⟨v, h1, _, h3⟩ := hcell k hk
          simp only [h1]
          exact h3 d hd) (by simp)
      rw [List.length_map, hll] at this
      exact repL1 (.lst _ _ _ _ this)
    · have := reached_len ht hr
      rw [hby] at this
      simpa [hll, hlen] using this
    · obtain ⟨i, hi, rfl⟩ := List.mem_iff_getElem.1 hv
      obtain ⟨_, _, _, _, h5⟩ := hp i _ (List.getElem?_eq_getElem hi)
      exact h5 hr
end Go.Proofs.Ytcmingndbhldgaa
/-
  Rooms as they are read out of a row (chapter 20).
-/
namespace Go.Proofs.Ytcmingndbhldgaa
open Go.RowKit Go.ChangeShapes Go.WideShapes
set_option maxRecDepth 100000
set_option linter.unusedVariables false
set_option linter.unusedSimpArgs false

theorem reach_num : reachBytes = 140737488351232 := rfl
theorem rdI {P : Program} {N : Nat} {t : TypeId} (ht : P.underlying t = some (.int .i64)) : Rd P N t (fun n : Int => [.i n]) (fun n => -9223372036854775808 ≤ n ∧ n ≤ 9223372036854775807) := fun enc w base spare held fuel cs x _ h => by
  obtain ⟨n, rfl, _, hw⟩ := DataW.trod_int ht h
  exact ⟨n, repL1 (.v _), by simp [Value.oneCell'], fun _ => by simp [Lit.wf, IntKind.min, IntKind.max, IntKind.signed, IntKind.bits] at hw; omega⟩
theorem below_sameAt {w w' : World} (h : Below w.heap.size w w') {p : MemPlace} (hp : p.block < w.heap.size) : w.sameAt w' p := by
  cases p with
  | cell b off => exact h.cell (p := ⟨b, off, none⟩) hp
  | map b => simp only [World.sameAt, h.block b hp]
theorem cells_one {P : Program} {w : World} {r : Reach} {base : Nat} {t e : TypeId} {v : Value} (ht : P.underlying t = some (.slice e) ∨ P.underlying t = some .string) (h : Value.okWide P w r base t v) : v.cells.toList = [v] := by
  unfold Value.okWide at h
  cases v with
  | agg cs =>
    rcases ht with ht | ht
    · simp [ht, Cell.okWide, Cell.ok] at h
    · simp [ht, Cell.okWide, Cell.ok] at h
  | _ => rfl
structure Way where
  root : ByteArray
  depth : Int
  fr : Int
  sug : Bool
def Way.d (x : Way) : List D := [.s x.root, .i x.depth, .i x.fr, .b x.sug]
theorem rdC (N : Nat) : Rd Try.prog N 44 Chd.d (fun x => x.room.size ≤ reachBytes ∧ x.order.size ≤ reachBytes ∧ (x.via.length * 16 ≤ reachBytes ∧ ∀ a ∈ x.via, a.size ≤ reachBytes) ∧ (-9223372036854775808 ≤ x.ts ∧ x.ts ≤ 9223372036854775807)) := fun enc w base spare held fuel cs x hfu h => by
  obtain ⟨xs, n', rfl, rfl, hlen, hxl, hf⟩ := DataW.trod_struct Try.underlying44 h
  have hlen' : cs.length = 5 := hlen.trans (by kernel_rfl)
  have hx3 : xs.length = 5 := hxl
  have g0 := hf 0 _ rfl
  have g1 := hf 1 _ rfl
  have g2 := hf 2 _ rfl
  have g3 := hf 3 _ rfl
  have g4 := hf 4 _ rfl
  obtain ⟨y0, y1, y2, y3, y4, rfl⟩ : ∃ y0 y1 y2 y3 y4, xs = [y0, y1, y2, y3, y4] := by
    rcases xs with _ | ⟨y0, _ | ⟨y1, _ | ⟨y2, _ | ⟨y3, _ | ⟨y4, _ | ⟨y5, xs⟩⟩⟩⟩⟩⟩ <;> simp at hx3
    exact ⟨y0, y1, y2, y3, y4, rfl⟩
  obtain ⟨x0, x1, x2, x3, x4, rfl⟩ : ∃ x0 x1 x2 x3 x4, cs = [x0, x1, x2, x3, x4] := by
    rcases cs with _ | ⟨x0, _ | ⟨x1, _ | ⟨x2, _ | ⟨x3, _ | ⟨x4, _ | ⟨x5, cs⟩⟩⟩⟩⟩⟩ <;> simp at hlen'
    exact ⟨x0, x1, x2, x3, x4, rfl⟩
  change DataW.trod enc Try.prog w base spare held n' 9 (([x0, x1, x2, x3, x4].drop 0).take (Program.cellsOf Try.prog 9)) = some y0 at g0
  change DataW.trod enc Try.prog w base spare held n' 9 (([x0, x1, x2, x3, x4].drop 1).take (Program.cellsOf Try.prog 9)) = some y1 at g1
  change DataW.trod enc Try.prog w base spare held n' 34 (([x0, x1, x2, x3, x4].drop 2).take (Program.cellsOf Try.prog 34)) = some y2 at g2
  change DataW.trod enc Try.prog w base spare held n' 4 (([x0, x1, x2, x3, x4].drop 3).take (Program.cellsOf Try.prog 4)) = some y3 at g3
  change DataW.trod enc Try.prog w base spare held n' 3 (([x0, x1, x2, x3, x4].drop 4).take (Program.cellsOf Try.prog 3)) = some y4 at g4
  have e0 : Program.cellsOf Try.prog 9 = 1 := by kernel_rfl
  have e1 : Program.cellsOf Try.prog 34 = 1 := by kernel_rfl
  have e2 : Program.cellsOf Try.prog 4 = 1 := by kernel_rfl
  have e3 : Program.cellsOf Try.prog 3 = 1 := by kernel_rfl
  simp only [e0, e1, e2, e3, List.drop_succ_cons, List.drop_zero, List.take_succ_cons, List.take_zero] at g0 g1 g2 g3 g4
  obtain ⟨a0, r0, o0, f0⟩ := Rd.str (N := n') Try.underlying9 enc w base spare held n' _ y0 (by omega) g0
  obtain ⟨a1, r1, o1, f1⟩ := Rd.str (N := n') Try.underlying9 enc w base spare held n' _ y1 (by omega) g1
  obtain ⟨a2, r2, o2, f2⟩ := Rd.slice (by_ := 16) (sz := 1) Try.underlying34 (by kernel_rfl) (by kernel_rfl) (by decide) (fun _ => rfl) (Rd.str (N := n') Try.underlying9) enc w base spare held n' _ y2 (by omega) g2
  obtain ⟨a3, r3, o3, f3⟩ := Rd.bool (N := n') Try.underlying4 enc w base spare held n' _ y3 (by omega) g3
  obtain ⟨a4, r4, o4, f4⟩ := rdI (N := n') Try.underlying3 enc w base spare held n' _ y4 (by omega) g4
  refine ⟨⟨a0, a1, a2, a3, a4⟩, r0.append (r1.append (r2.append (r3.append (r4)))), ?_, fun hr => ?_⟩
  · intro v hv
    simp only [List.mem_cons, List.not_mem_nil, or_false] at hv
    rcases hv with rfl | rfl | rfl | rfl | rfl
    · exact o0 _ (by simp)
    · exact o1 _ (by simp)
    · exact o2 _ (by simp)
    · exact o3 _ (by simp)
    · exact o4 _ (by simp)
  · exact ⟨f0 (reached_field Try.underlying44 hr (i := 0) rfl rfl), f1 (reached_field Try.underlying44 hr (i := 1) rfl rfl), f2 (reached_field Try.underlying44 hr (i := 2) rfl rfl), f4 (reached_field Try.underlying44 hr (i := 4) rfl rfl)⟩
theorem rdF (N : Nat) : Rd Try.prog N 41 RF.d (fun x => x.room.size ≤ reachBytes ∧ (-9223372036854775808 ≤ x.kind ∧ x.kind ≤ 9223372036854775807) ∧ (x.ch.length * 72 ≤ reachBytes ∧ ∀ a ∈ x.ch, (a.room.size ≤ reachBytes ∧ a.order.size ≤ reachBytes ∧ (a.via.length * 16 ≤ reachBytes ∧ ∀ b ∈ a.via, b.size ≤ reachBytes) ∧ (-9223372036854775808 ≤ a.ts ∧ a.ts ≤ 9223372036854775807)))) := fun enc w base spare held fuel cs x hfu h => by
  obtain ⟨xs, n', rfl, rfl, hlen, hxl, hf⟩ := DataW.trod_struct Try.underlying41 h
  have hlen' : cs.length = 3 := hlen.trans (by kernel_rfl)
  have hx3 : xs.length = 3 := hxl
  have g0 := hf 0 _ rfl
  have g1 := hf 1 _ rfl
  have g2 := hf 2 _ rfl
  obtain ⟨y0, y1, y2, rfl⟩ : ∃ y0 y1 y2, xs = [y0, y1, y2] := by
    rcases xs with _ | ⟨y0, _ | ⟨y1, _ | ⟨y2, _ | ⟨y3, xs⟩⟩⟩⟩ <;> simp at hx3
    exact ⟨y0, y1, y2, rfl⟩
  obtain ⟨x0, x1, x2, rfl⟩ : ∃ x0 x1 x2, cs = [x0, x1, x2] := by
    rcases cs with _ | ⟨x0, _ | ⟨x1, _ | ⟨x2, _ | ⟨x3, cs⟩⟩⟩⟩ <;> simp at hlen'
    exact ⟨x0, x1, x2, rfl⟩
  change DataW.trod enc Try.prog w base spare held n' 9 (([x0, x1, x2].drop 0).take (Program.cellsOf Try.prog 9)) = some y0 at g0
  change DataW.trod enc Try.prog w base spare held n' 3 (([x0, x1, x2].drop 1).take (Program.cellsOf Try.prog 3)) = some y1 at g1
  change DataW.trod enc Try.prog w base spare held n' 39 (([x0, x1, x2].drop 2).take (Program.cellsOf Try.prog 39)) = some y2 at g2
  have e0 : Program.cellsOf Try.prog 9 = 1 := by kernel_rfl
  have e1 : Program.cellsOf Try.prog 3 = 1 := by kernel_rfl
  have e2 : Program.cellsOf Try.prog 39 = 1 := by kernel_rfl
  simp only [e0, e1, e2, List.drop_succ_cons, List.drop_zero, List.take_succ_cons, List.take_zero] at g0 g1 g2
  obtain ⟨a0, r0, o0, f0⟩ := Rd.str (N := n') Try.underlying9 enc w base spare held n' _ y0 (by omega) g0
  obtain ⟨a1, r1, o1, f1⟩ := rdI (N := n') Try.underlying3 enc w base spare held n' _ y1 (by omega) g1
  obtain ⟨a2, r2, o2, f2⟩ := Rd.slice (by_ := 72) (sz := 5) Try.underlying39 (by kernel_rfl) (by kernel_rfl) (by decide) (fun _ => rfl) (rdC n') enc w base spare held n' _ y2 (by omega) g2
  refine ⟨⟨a0, a1, a2⟩, r0.append (r1.append (r2)), ?_, fun hr => ?_⟩
  · intro v hv
    simp only [List.mem_cons, List.not_mem_nil, or_false] at hv
    rcases hv with rfl | rfl | rfl
    · exact o0 _ (by simp)
    · exact o1 _ (by simp)
    · exact o2 _ (by simp)
  · exact ⟨f0 (reached_field Try.underlying41 hr (i := 0) rfl rfl), f1 (reached_field Try.underlying41 hr (i := 1) rfl rfl), f2 (reached_field Try.underlying41 hr (i := 2) rfl rfl)⟩
theorem rdWay (N : Nat) : Rd Try.prog N 24 Way.d (fun x => x.root.size ≤ reachBytes ∧ (-9223372036854775808 ≤ x.depth ∧ x.depth ≤ 9223372036854775807) ∧ (-9223372036854775808 ≤ x.fr ∧ x.fr ≤ 9223372036854775807)) := fun enc w base spare held fuel cs x hfu h => by
  obtain ⟨xs, n', rfl, rfl, hlen, hxl, hf⟩ := DataW.trod_struct Try.underlying24 h
  have hlen' : cs.length = 4 := hlen.trans (by kernel_rfl)
  have hx3 : xs.length = 4 := hxl
  have g0 := hf 0 _ rfl
  have g1 := hf 1 _ rfl
  have g2 := hf 2 _ rfl
  have g3 := hf 3 _ rfl
  obtain ⟨y0, y1, y2, y3, rfl⟩ : ∃ y0 y1 y2 y3, xs = [y0, y1, y2, y3] := by
    rcases xs with _ | ⟨y0, _ | ⟨y1, _ | ⟨y2, _ | ⟨y3, _ | ⟨y4, xs⟩⟩⟩⟩⟩ <;> simp at hx3
    exact ⟨y0, y1, y2, y3, rfl⟩
  obtain ⟨x0, x1, x2, x3, rfl⟩ : ∃ x0 x1 x2 x3, cs = [x0, x1, x2, x3] := by
    rcases cs with _ | ⟨x0, _ | ⟨x1, _ | ⟨x2, _ | ⟨x3, _ | ⟨x4, cs⟩⟩⟩⟩⟩ <;> simp at hlen'
    exact ⟨x0, x1, x2, x3, rfl⟩
  change DataW.trod enc Try.prog w base spare held n' 9 (([x0, x1, x2, x3].drop 0).take (Program.cellsOf Try.prog 9)) = some y0 at g0
  change DataW.trod enc Try.prog w base spare held n' 3 (([x0, x1, x2, x3].drop 1).take (Program.cellsOf Try.prog 3)) = some y1 at g1
  change DataW.trod enc Try.prog w base spare held n' 3 (([x0, x1, x2, x3].drop 2).take (Program.cellsOf Try.prog 3)) = some y2 at g2
  change DataW.trod enc Try.prog w base spare held n' 4 (([x0, x1, x2, x3].drop 3).take (Program.cellsOf Try.prog 4)) = some y3 at g3
  have e0 : Program.cellsOf Try.prog 9 = 1 := by kernel_rfl
  have e1 : Program.cellsOf Try.prog 3 = 1 := by kernel_rfl
  have e2 : Program.cellsOf Try.prog 4 = 1 := by kernel_rfl
  simp only [e0, e1, e2, List.drop_succ_cons, List.drop_zero, List.take_succ_cons, List.take_zero] at g0 g1 g2 g3
  obtain ⟨a0, r0, o0, f0⟩ := Rd.str (N := n') Try.underlying9 enc w base spare held n' _ y0 (by omega) g0
  obtain ⟨a1, r1, o1, f1⟩ := rdI (N := n') Try.underlying3 enc w base spare held n' _ y1 (by omega) g1
  obtain ⟨a2, r2, o2, f2⟩ := rdI (N := n') Try.underlying3 enc w base spare held n' _ y2 (by omega) g2
  obtain ⟨a3, r3, o3, f3⟩ := Rd.bool (N := n') Try.underlying4 enc w base spare held n' _ y3 (by omega) g3
  refine ⟨⟨a0, a1, a2, a3⟩, r0.append (r1.append (r2.append (r3))), ?_, fun hr => ?_⟩
  · intro v hv
    simp only [List.mem_cons, List.not_mem_nil, or_false] at hv
    rcases hv with rfl | rfl | rfl | rfl
    · exact o0 _ (by simp)
    · exact o1 _ (by simp)
    · exact o2 _ (by simp)
    · exact o3 _ (by simp)
  · exact ⟨f0 (reached_field Try.underlying24 hr (i := 0) rfl rfl), f1 (reached_field Try.underlying24 hr (i := 1) rfl rfl), f2 (reached_field Try.underlying24 hr (i := 2) rfl rfl)⟩
theorem argFs {H : Type} {enc : TypeId × Value → H} {W : World} {base : Nat} {v0 : Value} {d0 : DataW H} {p0 : List MemPlace}
    (hval : Value.okWide Try.prog W .any base 22 v0) (h0 : DataW.Trod enc Try.prog W 0 (fun _ => true) true 22 v0 d0 p0) (hr : Reached Try.prog 22 d0) :
    ∃ l : List RF, (l.length * 48 ≤ reachBytes ∧ ∀ x ∈ l, (x.room.size ≤ reachBytes ∧ (-9223372036854775808 ≤ x.kind ∧ x.kind ≤ 9223372036854775807) ∧ (x.ch.length * 72 ≤ reachBytes ∧ ∀ a ∈ x.ch, (a.room.size ≤ reachBytes ∧ a.order.size ≤ reachBytes ∧ (a.via.length * 16 ≤ reachBytes ∧ ∀ b ∈ a.via, b.size ≤ reachBytes) ∧ (-9223372036854775808 ≤ a.ts ∧ a.ts ≤ 9223372036854775807))))) ∧ Rep (Gh.of W) v0 (.lst false 3 (l.map RF.d)) := by
  obtain ⟨n, hn⟩ := h0
  obtain ⟨a, h1, h2, h3⟩ := Rd.slice (by_ := 48) (sz := 3) Try.underlying22 (by kernel_rfl) (by kernel_rfl) (by decide) (fun _ => rfl) (rdF n) enc W 0 _ true n _ _ (by omega) hn
  rw [cells_one (.inl Try.underlying22) hval] at h1
  exact ⟨a, h3 hr, h1.rep 0 _ _ rfl rfl⟩
theorem argWay {H : Type} {enc : TypeId × Value → H} {W : World} {base : Nat} {v0 : Value} {d0 : DataW H} {p0 : List MemPlace}
    (hval : Value.okWide Try.prog W .any base 24 v0) (h0 : DataW.Trod enc Try.prog W 0 (fun _ => true) true 24 v0 d0 p0) (hr : Reached Try.prog 24 d0) :
    ∃ x : Way, (x.root.size ≤ reachBytes ∧ (-9223372036854775808 ≤ x.depth ∧ x.depth ≤ 9223372036854775807) ∧ (-9223372036854775808 ≤ x.fr ∧ x.fr ≤ 9223372036854775807)) ∧ Rep (Gh.of W) v0 (.agg (Way.d x)) := by
  obtain ⟨n, hn⟩ := h0
  obtain ⟨a, h1, h2, h3⟩ := rdWay n enc W 0 _ true n _ _ (Nat.le_refl _) hn
  unfold Value.okWide at hval
  simp only [Try.underlying24] at hval
  obtain ⟨cs, rfl, _⟩ := hval
  have h1' : RepL (Gh.of W) cs.toList (Way.d a) := h1
  exact ⟨a, h3 hr, .agg _ _ h1'.len h2 h1'.rep⟩
theorem rf_ok {l : List RF} (h : l.length * 48 ≤ reachBytes ∧ ∀ x ∈ l, (x.room.size ≤ reachBytes ∧ (-9223372036854775808 ≤ x.kind ∧ x.kind ≤ 9223372036854775807) ∧ (x.ch.length * 72 ≤ reachBytes ∧ ∀ a ∈ x.ch, (a.room.size ≤ reachBytes ∧ a.order.size ≤ reachBytes ∧ (a.via.length * 16 ≤ reachBytes ∧ ∀ b ∈ a.via, b.size ≤ reachBytes) ∧ (-9223372036854775808 ≤ a.ts ∧ a.ts ≤ 9223372036854775807))))) : RFok l := by
  obtain ⟨h1, h2⟩ := h
  rw [reach_num] at h1
  refine ⟨by omega, fun f hf => ?_⟩
  obtain ⟨k1, _, k2, k3⟩ := h2 f hf
  rw [reach_num] at k1 k2
  refine ⟨by omega, k1, fun c hc => ?_⟩
  obtain ⟨j1, _, ⟨j2, _⟩, _⟩ := k3 c hc
  rw [reach_num] at j1 j2
  exact ⟨j1, by omega⟩
end Go.Proofs.Ytcmingndbhldgaa
/-
  What is known of the world in which a call of a plain row begins.
-/
namespace Go.Proofs.Ytcmingndbhldgaa
open Go.RowKit
theorem baseOk_shaped {W : World} (hsh : W.ShapedOpen Try.prog) : BaseOk W where
  maxLen := Go.Proofs.cell_of_shapedOpen_int (zero := #[.int .i64 0]) (t := 3) hsh (of_decide_eq_true (by kernel_rfl)) (by kernel_rfl) rfl (by kernel_rfl) (by kernel_rfl) Try.underlying3
  some := trivial
end Go.Proofs.Ytcmingndbhldgaa
/-
  The row of the law WalkCopies: it holds for every input.
-/
namespace Go.Proofs.Ytcmingndbhldgaa.walkCopies
open Go.ChangeShapes Go.WideShapes Go.ChangeAt Go.RowKit
set_option maxRecDepth 100000
set_option linter.unusedVariables false
set_option linter.unusedSimpArgs false

theorem walkCopies_args (l : List RF) (x : Way) (h0 : l.length * 48 ≤ reachBytes ∧ ∀ x ∈ l, (x.room.size ≤ reachBytes ∧ (-9223372036854775808 ≤ x.kind ∧ x.kind ≤ 9223372036854775807) ∧ (x.ch.length * 72 ≤ reachBytes ∧ ∀ a ∈ x.ch, (a.room.size ≤ reachBytes ∧ a.order.size ≤ reachBytes ∧ (a.via.length * 16 ≤ reachBytes ∧ ∀ b ∈ a.via, b.size ≤ reachBytes) ∧ (-9223372036854775808 ≤ a.ts ∧ a.ts ≤ 9223372036854775807))))) (h1 : x.root.size ≤ reachBytes ∧ (-9223372036854775808 ≤ x.depth ∧ x.depth ≤ 9223372036854775807) ∧ (-9223372036854775808 ≤ x.fr ∧ x.fr ≤ 9223372036854775807)) (σ : St) : Tri Try.prog 5 [.lst false 3 (l.map RF.d), .agg x.d] σ fun d τ => d = .b true ∧ τ = σ :=
  walkCopiesT l (rf_ok h0) x.root (by have := h1.1; rw [reach_num] at this; exact this) x.depth x.fr x.sug σ
theorem lifted (os : Os) (started : os.Started) (H : Type) (enc : TypeId × Value → H) :
    ReturnsInHanded {} Try.checked os 5 .any (Rows.walkCopiesSpec.pre6 enc Try.prog Try.f5 Rows.walkCopiesRow.domain false) (Rows.walkCopiesSpec.post enc Try.prog Try.f5 false true false false) := by
  refine returnsInHanded_of_change_shaped (C := Try.checked) own started (by kernel_rfl) Try.func5
    (ChangeSpec.witness6 (enc := enc) (C := Try.checked) false ⟨#[], #[.slice none 0 0, .agg #[.string ByteArray.empty, .int .i64 0, .int .i64 0, .bool false]], []⟩ 8 (by kernel_rfl) (by kernel_rfl) (by kernel_rfl) (by kernel_rfl)) ?_
  intro W base args ds gs before hval0 hW hcnd hreach hsh _
  have hval : ∀ (j : Nat) t v, Try.f5.params[j]? = some t → args[j]? = some v → Value.okWide Try.prog W .any base t v := hval0
  have hW' := hW
  have hlt := hW.lt
  obtain ⟨p, q, hA0, hV, rfl, hfz, hnd⟩ := hW
  have hA : DataW.TrodAll enc Try.prog W 0 (fun _ => true) true Try.f5.params.toList args.toList ds p := hA0
  rw [Try.params5] at hA hval
  obtain ⟨v0, vs0, d0, ds0, p0, q0, hargs, rfl, rfl, h0, r0⟩ := trodAll_cons hA
  obtain ⟨v1, vs1, d1, ds1, p1, q1, rfl, rfl, rfl, h1, r1⟩ := trodAll_cons r0
  obtain ⟨rfl, rfl, rfl⟩ := trodAll_nil r1
  obtain rfl : args = #[v0, v1] := by cases args; simp_all
  obtain ⟨rfl, rfl⟩ := trodVars_none hV
  obtain ⟨a0, o0, R0⟩ := argFs (hval 0 22 v0 rfl rfl) h0 (reached_arg hreach (j := 0) rfl rfl)
  obtain ⟨a1, o1, R1⟩ := argWay (hval 1 24 v1 rfl rfl) h1 (reached_arg hreach (j := 1) rfl rfl)
  have C := walkCopies_args a0 a1 o0 o1 .none W W (Gh.of W) _ (Sim.start W (baseOk_shaped hsh)) (((RepL.nil _).cons R1).cons R0)
  clear hA0 hval0
  refine C.mono fun e W' ⟨σ', G', _, hS, h4⟩ => ?_
  obtain ⟨v, d, he, hr, hd, _⟩ | ⟨_, _, hd⟩ := h4
  case inr => exact hd.elim
  subst hd
  obtain rfl : v = .bool true := hr.v_inv
  subst he
  have hg : Below W.heap.size W W' := hS.below
  have hin0 : ∀ p ∈ p0, p.block < W.heap.size := fun p hp => hlt p (by simp [hp])
  have hin1 : ∀ p ∈ p1, p.block < W.heap.size := fun p hp => hlt p (by simp [hp])
  exact ⟨_, rfl, post_of_below (pv := []) hW' (fun _ _ _ => (trodAll_cons_mk (shut_bool Try.underlying4 _) trodAll_mk0))
    (fun sp hsp => (trodAll_cons_mk (WideElems.Trod_stays laidOut (by kernel_rfl) (of_decide_eq_true (by kernel_rfl)) h0 (fun p hp => below_sameAt hg (hin0 p hp)) (fun p hp => hsp p (by simp [hp]))) (trodAll_cons_mk (WideElems.Trod_stays laidOut (by kernel_rfl) (of_decide_eq_true (by kernel_rfl)) h1 (fun p hp => below_sameAt hg (hin1 p hp)) (fun p hp => hsp p (by simp [hp]))) trodAll_mk0))) (fun _ _ => rfl) rfl
    hg (ok_one (by kernel_rfl) rfl (okWide_bool_mk Try.underlying4 _))⟩

theorem proved : Rows.WalkCopiesSaid :=
  OpenClaim.holds_of_wide 5 Try.f5 rfl rfl rfl rfl rfl rfl rfl ⟨rfl, rfl, rfl, rfl, rfl⟩ rfl rfl rfl rfl rfl (by kernel_rfl) Try.func5 (by kernel_rfl)
    (of_decide_eq_true (by kernel_rfl)) (by unfold Func.isWrapper; first | (rw [if_pos (by decide +kernel)]; kernel_rfl) | (rw [if_neg (by decide +kernel)]; exact ⟨rfl, rfl⟩))
    (fun os started H enc _ => lifted os started H enc)
#print axioms proved
end Go.Proofs.Ytcmingndbhldgaa.walkCopies
