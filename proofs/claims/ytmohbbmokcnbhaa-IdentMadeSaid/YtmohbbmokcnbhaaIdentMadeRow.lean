/-
  The row of the law IdentMade: it holds for every input.
-/
import Derived.Test.YtmohbbmokcnbhaaIdentMade
import Derived.Lib.SmallJoins
namespace Go.Proofs.Ytmohbbmokcnbhaa.identMade
open Go.ChangeShapes Go.WideShapes Go.ChangeAt Go.RowKit
open Go.ChangeMaps (open_string shut_string)
set_option linter.unusedVariables false

theorem open_u8x3 {H : Type} {enc : TypeId × Value → H} {W : World} {r : Reach} {b0 : Nat} {base : Nat} {sp : Nat → Bool} {held : Bool} {v : Value} {d : DataW H} {p : List MemPlace}
    (hv : Value.okWide Try.prog W r b0 26 v) (h : DataW.Trod enc Try.prog W base sp held 26 v d p) :
    ∃ a b c : Nat, v = .agg #[.int .u8 a, .int .u8 b, .int .u8 c] ∧ p = [] ∧ a < 256 ∧ b < 256 ∧ c < 256 := by
  simp only [Value.okWide, Try.underlying26] at hv
  obtain ⟨cs, rfl, hsz, _⟩ := hv
  have hC : Try.prog.cellsOf 26 = 3 := by kernel_rfl
  have hE : Try.prog.cellsOf 5 = 1 := by kernel_rfl
  obtain ⟨c0, c1, c2, rfl⟩ := Joins.array3 (hsz.trans hC)
  obtain ⟨fuel, hf⟩ := h
  obtain ⟨xs, m, _, hx, _, hl, he⟩ := DataW.trod_array Try.underlying26 hf
  rw [hE] at he
  match xs, hl with
  | [y0, y1, y2], _ =>
    have e0 := he 0 (by omega)
    have e1 := he 1 (by omega)
    have e2 := he 2 (by omega)
    simp [Value.cells] at e0 e1 e2
    obtain ⟨n0, q0, rfl, w0⟩ := DataW.trod_int Try.underlying5 e0
    obtain ⟨n1, q1, rfl, w1⟩ := DataW.trod_int Try.underlying5 e1
    obtain ⟨n2, q2, rfl, w2⟩ := DataW.trod_int Try.underlying5 e2
    simp at q0 q1 q2
    subst q0 q1 q2
    have b0 := bounds_u8 w0
    have b1 := bounds_u8 w1
    have b2 := bounds_u8 w2
    refine ⟨n0.toNat, n1.toNat, n2.toNat, ?_, ?_, by omega, by omega, by omega⟩
    · rw [Int.toNat_of_nonneg b0.1, Int.toNat_of_nonneg b1.1, Int.toNat_of_nonneg b2.1]
    · simp only [Prod.mk.injEq] at hx
      rw [hx.2]
      rfl

theorem walkZ (a b c : Nat) (p : Int) (ha : a < 256) (hb : b < 256) (hc : c < 256) (wp : (Lit.int .u32 p).wf = true) (w : World) :
    Calls Try.prog 4 #[.agg #[.int .u8 a, .int .u8 b, .int .u8 c], .int .u32 p] w fun e w' => e = .returned (.bool true) ∧ Below w.heap.size w w' := by
  have h := bounds_u32 wp
  obtain ⟨n, rfl⟩ := Int.eq_ofNat_of_zero_le h.1
  exact identMade_walk a b c n ha hb hc (by omega) w

set_option maxRecDepth 100000 in
theorem lifted (os : Os) (started : os.Started) (H : Type) (enc : TypeId × Value → H) :
    ReturnsInHanded {} Try.checked os 4 .any (Rows.identMadeSpec.pre6 enc Try.prog Try.f4 Rows.identMadeRow.domain false) (Rows.identMadeSpec.post enc Try.prog Try.f4 false true false false) := by
  refine returnsInHanded_of_change (C := Try.checked) own started (by kernel_rfl) Try.func4
    (ChangeSpec.witness6 (enc := enc) (C := Try.checked) false ⟨#[], #[.agg #[.int .u8 0, .int .u8 0, .int .u8 0], .int .u32 0], []⟩ 8 (by kernel_rfl) (by kernel_rfl) (by kernel_rfl) (by kernel_rfl)) ?_
  intro W base args ds gs before hval0 hW hcnd _
  have hval : ∀ (j : Nat) t v, Try.f4.params[j]? = some t → args[j]? = some v → Value.okWide Try.prog W .any base t v := hval0
  have hW' := hW
  obtain ⟨p, q, hA0, hV, rfl, hfz, hnd⟩ := hW
  have hA : DataW.TrodAll enc Try.prog W 0 (fun _ => true) true Try.f4.params.toList args.toList ds p := hA0
  rw [Try.params4] at hA hval
  obtain ⟨v0, vs0, d0, ds0, p0, q0, hargs, rfl, rfl, h0, r0⟩ := trodAll_cons hA
  obtain ⟨v1, vs1, d1, ds1, p1, q1, rfl, rfl, rfl, h1, r1⟩ := trodAll_cons r0
  obtain ⟨rfl, rfl, rfl⟩ := trodAll_nil r1
  obtain rfl : args = #[v0, v1] := by cases args; simp_all
  obtain ⟨rfl, rfl⟩ := trodVars_none hV
  have k0 := h0
  obtain ⟨a, b, c, rfl, rfl, ha, hb, hc⟩ := open_u8x3 (hval 0 26 v0 rfl rfl) h0
  obtain ⟨a1, rfl, rfl, rfl, w1⟩ := open_int Try.underlying27 (hval 1 27 v1 rfl rfl) h1
  clear hA0 hval0
  simp only [List.append_nil] at hW'
  refine (walkZ a b c a1 ha hb hc w1 W).mono fun e W' ⟨he, hg⟩ => ?_
  subst he
  exact ⟨_, rfl, post_of_below (pa := []) (pv := []) hW' (fun _ _ _ => (trodAll_cons_mk (shut_bool Try.underlying4 _) trodAll_mk0))
    (fun sp hsp => (trodAll_cons_mk (WideElems.Trod_stays laidOut (by kernel_rfl) (of_decide_eq_true (by kernel_rfl)) k0 (fun _ h => absurd h (List.not_mem_nil)) (fun _ h => absurd h (List.not_mem_nil))) (trodAll_cons_mk (shut_int Try.underlying27 w1) trodAll_mk0))) (fun _ _ => rfl) rfl
    hg (ok_one (by kernel_rfl) rfl (okWide_bool_mk Try.underlying4 _))⟩

theorem proved : Rows.IdentMadeSaid :=
  OpenClaim.holds_of_wide 4 Try.f4 rfl rfl rfl rfl rfl rfl rfl ⟨rfl, rfl, rfl, rfl, rfl⟩ rfl rfl rfl rfl rfl (by kernel_rfl) Try.func4 (by kernel_rfl)
    (of_decide_eq_true (by kernel_rfl)) (by unfold Func.isWrapper; rw [if_neg (by decide +kernel)]; exact ⟨rfl, rfl⟩)
    (fun os started H enc _ => lifted os started H enc)
#print axioms proved
end Go.Proofs.Ytmohbbmokcnbhaa.identMade
