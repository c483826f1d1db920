/-
  The row of the law SearchPages: it holds for every input.
-/
import Derived.Test.YtmpbofmhjjgccaaPagesT
import Derived.Test.YtmpbofmhjjgccaaCommon
import Derived.HandedShaped
namespace Go.Proofs.Ytmpbofmhjjgccaa.searchPages
open Go.ChangeShapes Go.WideShapes Go.ChangeAt Go.RowKit
open Go.ChangeMaps (open_string shut_string)
set_option linter.unusedVariables false
set_option linter.unusedSimpArgs false

theorem below_sameAt {w w' : World} (h : Below w.heap.size w w') {p : MemPlace} (hp : p.block < w.heap.size) : w.sameAt w' p := by
  cases p with
  | cell b off => exact h.cell (p := ⟨b, off, none⟩) hp
  | map b => simp only [World.sameAt, h.block b hp]
theorem spot_cell {P : Program} {w : World} {r : Reach} {base : Nat} {t e : TypeId} {a : Addr} {n c : Nat} (ht : P.underlying t = some (.slice e)) (h : Cell.okWide P w r base t (.slice (some a) n c)) : a.spot = none := by
  simp only [Cell.okWide, ht, Cell.ok, World.has] at h
  exact h.2.2.2.1
theorem spot_ok {P : Program} {w : World} {r : Reach} {base : Nat} {t e : TypeId} {a : Addr} {n c : Nat} (ht : P.underlying t = some (.slice e)) (h : Value.okWide P w r base t (.slice (some a) n c)) : a.spot = none := by
  unfold Value.okWide at h
  simp only [ht] at h
  exact spot_cell ht h
theorem nil_cell {P : Program} {w : World} {r : Reach} {base : Nat} {t e : TypeId} {n c : Nat} (ht : P.underlying t = some (.slice e)) (h : Cell.okWide P w r base t (.slice none n c)) : n = 0 ∧ c = 0 := by
  rcases n with _ | n <;> rcases c with _ | c <;> simp_all [Cell.okWide, Cell.ok]
theorem nil_ok {P : Program} {w : World} {r : Reach} {base : Nat} {t e : TypeId} {n c : Nat} (ht : P.underlying t = some (.slice e)) (h : Value.okWide P w r base t (.slice none n c)) : n = 0 ∧ c = 0 := by
  unfold Value.okWide at h
  simp only [ht] at h
  exact nil_cell ht h
theorem gh_of {w : World} {b o : Nat} {v : Value} (h : w.cell? ⟨b, o, none⟩ = some v) (h1 : v.oneCell' = true) : Gh.of w b o = some v := by
  unfold Gh.of
  rw [h]
  simp [h1]
theorem flat_row {α : Type} {sz : Nat} (hz : 0 < sz) : ∀ (yss : List (List α)) (k : Nat) (u : α), (∀ ys ∈ yss, ys.length = sz) → yss.flatten[k]? = some u → ∃ ys, yss[k / sz]? = some ys ∧ ys[k % sz]? = some u
  | [], k, u, _, h => by simp at h
  | ys :: yss, k, u, hs, h => by
    have hl : ys.length = sz := hs ys (by simp)
    by_cases hk : k < sz
    · rw [List.flatten_cons, List.getElem?_append_left (by omega)] at h
      refine ⟨ys, by rw [Nat.div_eq_of_lt hk]; rfl, by rw [Nat.mod_eq_of_lt hk]; exact h⟩
    · rw [List.flatten_cons, List.getElem?_append_right (by omega), hl] at h
      obtain ⟨zs, h1, h2⟩ := flat_row hz yss (k - sz) u (fun y hy => hs y (by simp [hy])) h
      have hk' : k = (k - sz) + sz := by omega
      refine ⟨zs, ?_, ?_⟩
      · rw [hk', Nat.add_div_right _ hz]; simpa using h1
      · rw [hk', Nat.add_mod_right]; exact h2

set_option maxRecDepth 100000 in
theorem lifted (os : Os) (started : os.Started) (H : Type) (enc : TypeId × Value → H) :
    ReturnsInHanded {} Try.checked os 3 .any (Rows.searchPagesSpec.pre6 enc Try.prog Try.f3 Rows.searchPagesRow.domain false) (Rows.searchPagesSpec.post enc Try.prog Try.f3 false true false false) := by
  refine returnsInHanded_of_change_shaped (C := Try.checked) own started (by kernel_rfl) Try.func3
    (ChangeSpec.witness6 (enc := enc) (C := Try.checked) false ⟨#[], #[.slice none 0 0, .agg #[.string ByteArray.empty, .slice none 0 0, .int .i64 0, .int .i64 0]], []⟩ 8 (by kernel_rfl) (by kernel_rfl) (by kernel_rfl) (by kernel_rfl)) ?_
  intro W base args ds gs before hval0 hW hcnd hreach hsh _
  have hval : ∀ (j : Nat) t v, Try.f3.params[j]? = some t → args[j]? = some v → Value.okWide Try.prog W .any base t v := hval0
  have hW' := hW
  have hlt := hW.lt
  obtain ⟨p, q, hA0, hV, rfl, hfz, hnd⟩ := hW
  have hA : DataW.TrodAll enc Try.prog W 0 (fun _ => true) true Try.f3.params.toList args.toList ds p := hA0
  rw [Try.params3] at hA hval
  obtain ⟨v0, vs0, d0, ds0, p0, q0, hargs, rfl, rfl, h0, r0⟩ := trodAll_cons hA
  obtain ⟨v1, vs1, d1, ds1, p1, q1, rfl, rfl, rfl, h1, r1⟩ := trodAll_cons r0
  obtain ⟨rfl, rfl, rfl⟩ := trodAll_nil r1
  obtain rfl : args = #[v0, v1] := by cases args; simp_all
  obtain ⟨rfl, rfl⟩ := trodVars_none hV
  obtain ⟨x0, l0, c0, rfl⟩ := okWide_slice Try.underlying22 (hval 0 22 v0 rfl rfl)
  obtain ⟨n0, k0⟩ := id h0
  obtain ⟨pl, l, cl, e0, hl, hL, hat, hgood, hfits⟩ := SVs_of_trod k0
  injection e0 with e0 _
  injection e0 with z1 z2 z3
  subst z1 z2 z3
  obtain ⟨n1, k1⟩ := id h1
  obtain ⟨qv, ⟨pt, ct, hcells, ht1, ht2, hstrs⟩, hqgood, hqfits⟩ := QV_of_trod k1
  have hv1 := hval 1 25 v1 rfl rfl
  unfold Value.okWide at hv1
  simp only [Try.underlying25] at hv1
  obtain ⟨cs, rfl, hsz, ts, hts, _, hcell⟩ := hv1
  have hcs : cs = #[Value.string qv.term, Value.slice pt qv.types.length ct, Value.int IntKind.i64 qv.limit, Value.int IntKind.i64 qv.since] := by
    have : cs.toList = _ := hcells
    exact Array.toList_inj.1 this
  subst hcs
  obtain rfl : ts = [9, 23, 3, 3] := by
    have : Program.cellTypes Try.prog (Program.depth Try.prog) 25 = some [9, 23, 3, 3] := by kernel_rfl
    rw [this] at hts
    injection hts with hts
    exact hts.symm
  have hc1 : Cell.okWide Try.prog W .any base 23 (Value.slice pt qv.types.length ct) := by
    obtain ⟨u, hu, hk⟩ := hcell 1 _ rfl
    injection hu with hu
    subst hu
    exact hk
  have hv0 := hval 0 22 _ rfl rfl
  have R0 : Rep (Gh.of W) (.slice x0 l.length c0) (.lst false 10 (l.map SVd)) := by
    cases x0 with
    | none =>
      obtain ⟨e1, rfl⟩ := nil_ok Try.underlying22 hv0
      obtain rfl : l = [] := List.eq_nil_of_length_eq_zero e1
      exact .lst0 _ _
    | some a =>
      obtain ⟨g, o, sp⟩ := a
      obtain rfl : sp = none := spot_ok Try.underlying22 hv0
      have hl10 : ∀ ys ∈ l.map SV.cells, ys.length = 10 := by
        intro ys hy
        obtain ⟨x, _, rfl⟩ := List.mem_map.1 hy
        rfl
      have := rep_row (G := Gh.of W) (g := g) (o0 := o) (c := c0) (sz := 10) (l.map SV.cells) hl10 (by simpa using hl) (fun k u hu => by
        obtain ⟨ys, h2, h3⟩ := flat_row (by decide) _ k u hl10 hu
        rw [List.getElem?_map, Option.map_eq_some_iff] at h2
        obtain ⟨x, hx, rfl⟩ := h2
        obtain ⟨a, ha, cs', hcs', hc⟩ := hat _ _ hx
        injection ha with ha
        subst ha
        have hcc : cs' = x.cells := hcs'
        subst hcc
        have := hc _ _ h3
        refine gh_of ?_ ?_
        · have e : ((Addr.mk g o none).add (k / 10 * 10)).add (k % 10) = ⟨g, o + k, none⟩ := by
            have hk : k / 10 * 10 + k % 10 = k := by omega
            unfold Addr.add
            split <;> split <;> simp_all <;> omega
          rw [← e]
          exact this
        · have hm : u ∈ x.cells := List.mem_of_getElem? h3
          unfold SV.cells at hm
          simp at hm
          rcases hm with rfl | rfl | rfl | rfl | rfl | rfl | rfl | rfl | rfl | rfl <;> rfl)
      have e : (l.map SV.cells).map (fun ys => ys.map D.v) = l.map SVd := by
        rw [List.map_map]
        rfl
      rw [e, List.length_map] at this
      exact .lst _ _ _ _ this
  have R1 : Rep (Gh.of W) (.slice pt qv.types.length ct) (.lst false 1 (qv.types.map fun t => [D.s t])) := by
    cases pt with
    | none =>
      obtain ⟨e1, rfl⟩ := nil_cell Try.underlying23 hc1
      have e2 : qv.types = [] := List.eq_nil_of_length_eq_zero e1
      rw [e2]
      exact .lst0 _ _
    | some a =>
      obtain ⟨g, o, sp⟩ := a
      obtain rfl : sp = none := spot_cell Try.underlying23 hc1
      have hl1 : ∀ ys ∈ qv.types.map (fun t => [Value.string t]), ys.length = 1 := by
        intro ys hy
        obtain ⟨x, _, rfl⟩ := List.mem_map.1 hy
        rfl
      have := rep_row (G := Gh.of W) (g := g) (o0 := o) (c := ct) (sz := 1) (qv.types.map fun t => [Value.string t]) hl1 (by simpa using ht1) (fun k u hu => by
        obtain ⟨ys, h2, h3⟩ := flat_row (by decide) _ k u hl1 hu
        rw [List.getElem?_map, Option.map_eq_some_iff] at h2
        obtain ⟨x, hx, rfl⟩ := h2
        rw [Nat.mod_one] at h3
        injection h3 with h3
        subst h3
        rw [Nat.div_one] at hx
        obtain ⟨a, ha, hc⟩ := hstrs _ _ hx
        injection ha with ha
        subst ha
        refine gh_of ?_ rfl
        have e : (Addr.mk g o none).add k = ⟨g, o + k, none⟩ := by
          unfold Addr.add
          split <;> simp_all
        rw [← e]
        exact hc)
      have e : (qv.types.map fun t => [Value.string t]).map (fun ys => ys.map D.v) = qv.types.map fun t => [D.s t] := by
        rw [List.map_map]
        rfl
      rw [e, List.length_map] at this
      exact .lst _ _ _ _ this
  have R2 : Rep (Gh.of W) (.agg #[Value.string qv.term, Value.slice pt qv.types.length ct, Value.int IntKind.i64 qv.limit, Value.int IntKind.i64 qv.since]) (.agg (QVd qv)) := by
    have hR : RepL (Gh.of W) [Value.string qv.term, Value.slice pt qv.types.length ct, Value.int IntKind.i64 qv.limit, Value.int IntKind.i64 qv.since] (QVd qv) := (RepL.nil _).cons (.v _) |>.cons (.v _) |>.cons R1 |>.cons (.v _)
    exact .agg _ _ hR.len (by simp [Value.oneCell']) hR.rep
  have hr0 : Reached Try.prog 22 d0 := reached_arg hreach (j := 0) rfl rfl
  have hf := hfits hr0
  have T := pagesT l qv .none (by unfold maxLen at hL; omega) (by unfold maxLen at ht2; omega) (fun x hx => by
    have h := hf x hx
    have h1 := h.name
    have h2 := h.topic
    have h3 := h.alias
    unfold reachBytes at h1 h2 h3
    exact ⟨by omega, by omega, by omega⟩)
  have hB : BaseOk W := ⟨Try.laysM144.s1_3 W hsh, trivial⟩
  have C := T W W (Gh.of W) _ (Sim.start W hB) ((RepL.nil _).cons R2 |>.cons R0)
  clear hA0 hval0
  refine C.mono fun e W' ⟨v, d, σ', G', he, _, hS, hr, hd, _⟩ => ?_
  subst hd
  obtain rfl : v = .bool true := hr.v_inv
  subst he
  have hg : Below W.heap.size W W' := hS.below
  have hin0 : ∀ p ∈ p0, p.block < W.heap.size := fun p hp => hlt p (by simp [hp])
  have hin1 : ∀ p ∈ p1, p.block < W.heap.size := fun p hp => hlt p (by simp [hp])
  exact ⟨_, rfl, post_of_below (pv := []) hW' (fun _ _ _ => (trodAll_cons_mk (shut_bool Try.underlying4 _) trodAll_mk0))
    (fun sp hsp => (trodAll_cons_mk (WideElems.Trod_stays laidOut (by kernel_rfl) (of_decide_eq_true (by kernel_rfl)) h0 (fun p hp => below_sameAt hg (hin0 p hp)) (fun p hp => hsp p (by simp [hp])))
      (trodAll_cons_mk (WideElems.Trod_stays laidOut (by kernel_rfl) (of_decide_eq_true (by kernel_rfl)) h1 (fun p hp => below_sameAt hg (hin1 p hp)) (fun p hp => hsp p (by simp [hp]))) trodAll_mk0))) (fun _ _ => rfl) rfl
    hg (ok_one (by kernel_rfl) rfl (okWide_bool_mk Try.underlying4 _))⟩

theorem proved : Rows.SearchPagesSaid :=
  OpenClaim.holds_of_wide 3 Try.f3 rfl rfl rfl rfl rfl rfl rfl ⟨rfl, rfl, rfl, rfl, rfl⟩ rfl rfl rfl rfl rfl (by kernel_rfl) Try.func3 (by kernel_rfl)
    (of_decide_eq_true (by kernel_rfl)) (by unfold Func.isWrapper; rw [if_neg (by decide +kernel)]; exact ⟨rfl, rfl⟩)
    (fun os started H enc _ => lifted os started H enc)
#print axioms proved
end Go.Proofs.Ytmpbofmhjjgccaa.searchPages
