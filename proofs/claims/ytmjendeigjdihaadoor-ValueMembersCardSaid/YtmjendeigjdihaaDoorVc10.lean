/- Part 10 of the proof of CardValueChecks: Chain AsT TellT Lq V29 V1 V16 V17. -/
import Derived.Test.YtmjendeigjdihaaDoorVc9
import Derived.Test.YtmjendeigjdihaaDoorVc6
import Derived.Test.YtmjendeigjdihaaDoorVc5
import Derived.Test.YtmjendeigjdihaaDoorVc8
/-
  errors.As, errors.Is at a chain of faults about a code.
-/
namespace Go.Proofs.YtmjendeigjdihaaDoor
open Go.RowKit Go.Extern.Stop Go.Stop Go.Extern
set_option maxRecDepth 100000
set_option linter.unusedVariables false
set_option linter.unusedSimpArgs false

def Er.depth : Er → Nat
  | .code _ => 0
  | .fault _ _ w => w.depth + 1
/-- What lies in a world as G has it. -/
def Holds (w : World) (G : Gh) : Prop := ∀ b o v, G b o = some v → w.cell? ⟨b, o, none⟩ = some v
theorem Er.d_iface' (e : Er) : ∃ t x, e.d = .iface t x := by cases e <;> exact ⟨_, _, rfl⟩
theorem er_code {G : Gh} {v : Value} {c : Int} (h : Rep G v (Er.code c).d) : v = .iface 56 (.int .i64 c) := by
  rw [Er.d] at h
  cases h with
  | iface _ x _ hr => rw [hr.v_inv]
theorem er_fault {G : Gh} {v : Value} {a : Int} {f : ByteArray} {e : Er} (h : Rep G v (Er.fault a f e).d) : ∃ b o x, v = .iface 79 (.pointer (some ⟨b, o, none⟩)) ∧ G b o = some (.int .i64 a) ∧ G b (o + 1) = some (.string f) ∧ G b (o + 2) = some x ∧ Rep G x e.d := by
  rw [Er.d] at h
  cases h with
  | iface _ x _ hr =>
    cases hr with
    | ptr ad _ vals hs hcell hrep =>
      obtain ⟨b, o, sp⟩ := ad
      simp only at hs
      subst hs
      have h0 := hrep 0 _ rfl
      have h1 := hrep 1 _ rfl
      have h2 := hrep 2 _ rfl
      have c0 := hcell 0 (by simp)
      have c1 := hcell 1 (by simp)
      have c2 := hcell 2 (by simp)
      rw [h0.v_inv] at c0
      rw [h1.v_inv] at c1
      exact ⟨b, o, _, rfl, c0, c1, c2, h2⟩
def clen (w : World) : Nat → Value → Nat
  | 0, _ => 0
  | n + 1, .iface _ (.pointer (some a)) => match w.cell? ⟨a.block, a.off + 2, none⟩ with
    | some x => clen w n x + 1
    | none => 0
  | _ + 1, _ => 0
theorem clen_er {w : World} {G : Gh} (hw : Holds w G) : ∀ (n : Nat) (e : Er) (v : Value), Rep G v e.d → e.depth ≤ n → clen w n v = e.depth
  | 0, .code c, v, h, _ => rfl
  | 0, .fault a f e, v, h, hn => by rw [Er.depth] at hn; omega
  | n + 1, .code c, v, h, _ => by rw [er_code h]; rfl
  | n + 1, .fault a f e, v, h, hn => by
    obtain ⟨b, o, x, rfl, _, _, h2, hx⟩ := er_fault h
    rw [Er.depth] at hn
    rw [clen]
    simp only [hw _ _ _ h2]
    rw [clen_er hw n e x hx (by omega), Er.depth]
theorem noAssignC_fault (w : World) : (ReflectliteType.relation "AssignableTo" ReflectliteType.assignableTo #[.agg #[.pointer (some ⟨7, 79, none⟩)], .iface 117 (.agg #[.pointer (some ⟨7, 56, none⟩)])]).run Tryd.prog w = .ok (.bool false) w := by kernel_rfl
theorem noAs_fault (v : Value) (w : World) : (Instr.typeAssert (.iface 79 v) 32 129 true).run Tryd.prog w = .ok (.tuple #[.nilIface, .bool false]) w := run_typeAssert_lacksB Tryd.underlying129 (by kernel_rfl) (by kernel_rfl) v _ w
set_option maxHeartbeats 4000000 in
theorem unwrap_cell (b o : Nat) (why : Value) (w : World) (c2 : w.cell? ⟨b, o + 2, none⟩ = some why) :
    Calls Tryd.prog 109 #[.pointer (some ⟨b, o, none⟩)] w fun ev w' => ev = .returned why ∧ w = w' := by
  go_enter Tryd.func109, Tryd.ntmps109
  go_wp2
  go_ret
  exact ⟨rfl, rfl⟩
theorem er_iface {G : Gh} {v : Value} {e : Er} (h : Rep G v e.d) : ∃ t x, v = .iface t x := by
  cases e with
  | code c => exact ⟨_, _, er_code h⟩
  | fault a f e => obtain ⟨b, o, x, rfl, _⟩ := er_fault h; exact ⟨_, _, rfl⟩
set_option maxHeartbeats 8000000 in
theorem is_chain (G : Gh) (e : Er) (b : Int) (v : Value) (w : World) (hw : Holds w G) (hv : Rep G v e.d) :
    Calls Tryd.prog 48 #[v, .iface 56 (.int .i64 b), .bool true] w fun ev w' => ev = .returned (.bool (decide (e.inner = b))) ∧ w = w' := by
  obtain ⟨N, hN⟩ : ∃ N, N = e.depth := ⟨_, rfl⟩
  have HV := Lib.hid hv
  have HW := Lib.hid hw
  have HN := Lib.hid hN
  clear hv hw hN
  go_enter Tryd.func48, Tryd.ntmps48
  go_wp2_with fail
  go_loopw [0] (fun i wr => wr = w ∧ ∃ e' : Er, Rep G i e'.d ∧ e'.inner = e.inner ∧ e'.depth ≤ N) (fun i _ => clen w N i)
  case atStart => exact ⟨rfl, e, HV.out, rfl, by rw [HN.out]; exact Nat.le_refl _⟩
  obtain ⟨rfl, e', hr, hi, hd⟩ := hrel
  have HI := Lib.hid hi
  have HD := Lib.hid hd
  clear hi hd
  cases e' with
  | code c =>
    have hv := er_code hr
    clear hr
    subst hv
    have he := code_eql c b
    have h1 := noIs_code (.int .i64 c)
    have h2 := noUnwrap_code (.int .i64 c)
    have h3 := noUnwraps_code (.int .i64 c)
    cases hcb : (c == b)
    all_goals
      rw [hcb] at he
      have HC := Lib.hid hcb
      clear hcb
      go_wp2_with fail
      go_ret
      refine ⟨?_, rfl⟩
      have h1 := HI.out
      have h2 := HC.out
      rw [Er.inner] at h1
      subst h1
      simp at h2
      simp [h2]
  | fault a f e1 =>
    obtain ⟨bb, o, x, hv, hc0, hc1, hc2, hx⟩ := er_fault hr
    have HR := Lib.hid hr
    clear hr hc0 hc1
    subst hv
    have he := fault_eql (some ⟨bb, o, none⟩) b
    have h1 := noIs_fault (.pointer (some ⟨bb, o, none⟩))
    have h2 := hasUnwrap_fault (some ⟨bb, o, none⟩)
    have mU := method_unwrap (.pointer (some ⟨bb, o, none⟩))
    have hu := unwrap_cell bb o x wr (HW.out _ _ _ hc2)
    clear hc2
    have HX := Lib.hid hx
    obtain ⟨ty, y, rfl⟩ := er_iface hx
    clear hx
    go_wp2_with fail
    refine hu.mono ?_
    rintro ev w' ⟨rfl, rfl⟩
    clear hu he h1 h2 mU
    go_wp2_with fail
    have k1 := clen_er HW.out N (.fault a f e1) _ HR.out HD.out
    have k2 := clen_er HW.out N e1 _ HX.out (by have := HD.out; rw [Er.depth] at this; omega)
    refine ⟨⟨trivial, e1, HX.out, ?_, ?_⟩, ?_⟩
    · rw [← HI.out]; rfl
    · have := HD.out; rw [Er.depth] at this; omega
    · rw [k1, k2, Er.depth]; omega
set_option maxHeartbeats 8000000 in
theorem errors_Is_chain (G : Gh) (e : Er) (b : Int) (v : Value) (w : World) (hw : Holds w G) (hv : Rep G v e.d) :
    Calls Tryd.prog 22 #[v, .iface 56 (.int .i64 b)] w fun ev w' => ev = .returned (.bool (decide (e.inner = b))) ∧ w = w' := by
  have hc := is_chain G e b v w hw hv
  have hT := @run_callFunc_extern Tryd.prog 47 _ ReflectliteType.typeOf Tryd.func47 (by kernel_rfl) (by kernel_rfl) (by kernel_rfl) (by kernel_rfl)
  have tO := typeOf_code
  have mC := method_comparable
  have hF := @run_callFunc_extern Tryd.prog 115 _ (ReflectliteType.method fun t => do Rtype.noPackHeld "Comparable" t; pure (.bool (← typeInfo t).comparable)) Tryd.func115 (by kernel_rfl) (by kernel_rfl) (by kernel_rfl) (by kernel_rfl)
  have cC := comparable_code
  obtain ⟨r, hr⟩ : ∃ r, r = decide (e.inner = b) := ⟨_, rfl⟩
  rw [← hr] at hc ⊢
  obtain ⟨ty, y, rfl⟩ := er_iface hv
  clear hv hw hr
  go_enter Tryd.func22, Tryd.ntmps22
  go_wp2_with (go_at_call 48; refine hc.mono ?_; rintro ev w' ⟨rfl, rfl⟩)
  go_ret
  exact ⟨rfl, rfl⟩
set_option maxHeartbeats 16000000 in
theorem as_code_chain (G : Gh) (e : Er) (v : Value) (t : Addr) (old : Value) (w : World) (hw : Holds w G) (hv : Rep G v e.d) (hg : ErrT w) (ht0 : w.cell? t = some old) (hf0 : w.frozen? t = false) :
    Calls Tryd.prog 38 #[v, .iface 78 (.pointer (some t))] w fun ev w' => ev = .returned (.bool true) ∧ w' = ((((w.alloc (.cells #[.pointer (some t)] 78)).alloc (.cells #[.pointer (some ⟨7, 78, none⟩), .pointer (some ⟨w.heap.size, 0, none⟩), .int .u64 150] 108)).alloc (.cells #[.pointer (some ⟨7, 78, none⟩), .pointer (some ⟨w.heap.size, 0, none⟩), .int .u64 150] 108)).alloc (.cells #[.int .i64 e.inner] 56)).setCell t (.int .i64 e.inner) := by
  obtain ⟨N, hN⟩ : ∃ N, N = e.depth := ⟨_, rfl⟩
  have HV := Lib.hid hv
  have HW := Lib.hid hw
  have HN := Lib.hid hN
  obtain ⟨c, hc⟩ : ∃ c, c = e.inner := ⟨_, rfl⟩
  rw [← hc]
  have HC := Lib.hid hc
  clear hN hw hc
  have hVO := @run_callFunc_extern Tryd.prog 59 _ (fun args => ReflectliteValue.unpack (args.getD 0 (.tuple #[]))) Tryd.func59 (by kernel_rfl) (by kernel_rfl) (by kernel_rfl) (by kernel_rfl)
  have hVT := @run_callFunc_extern Tryd.prog 60 _ (ReflectliteValue.methodAny (ReflectliteValue.valueError "reflectlite.Value.Type" 0) (fun t _ _ _ => ReflectliteType.toType t)) Tryd.func60 (by kernel_rfl) (by kernel_rfl) (by kernel_rfl) (by kernel_rfl)
  have hVN := @run_callFunc_extern Tryd.prog 61 _ (ReflectliteValue.method (ReflectliteValue.valueError "reflectlite.Value.IsNil" 0) ReflectliteValue.isNil) Tryd.func61 (by kernel_rfl) (by kernel_rfl) (by kernel_rfl) (by kernel_rfl)
  have hK := @run_callFunc_extern Tryd.prog 104 _ (ReflectliteType.abiMethod fun t => do pure (.int .u8 (← Rtype.kind t))) Tryd.func104 (by kernel_rfl) (by kernel_rfl) (by kernel_rfl) (by kernel_rfl)
  have hE := @run_callFunc_extern Tryd.prog 116 _ (ReflectliteType.method ReflectliteType.elem) Tryd.func116 (by kernel_rfl) (by kernel_rfl) (by kernel_rfl) (by kernel_rfl)
  have hI := @run_callFunc_extern Tryd.prog 117 _ (ReflectliteType.relation "Implements" ReflectliteType.implements_) Tryd.func117 (by kernel_rfl) (by kernel_rfl) (by kernel_rfl) (by kernel_rfl)
  have hT := @run_callFunc_extern Tryd.prog 47 _ ReflectliteType.typeOf Tryd.func47 (by kernel_rfl) (by kernel_rfl) (by kernel_rfl) (by kernel_rfl)
  have hA := @run_callFunc_extern Tryd.prog 114 _ (ReflectliteType.relation "AssignableTo" ReflectliteType.assignableTo) Tryd.func114 (by kernel_rfl) (by kernel_rfl) (by kernel_rfl) (by kernel_rfl)
  have hVE := @run_callFunc_extern Tryd.prog 67 _ (ReflectliteValue.method (ReflectliteValue.valueError "reflectlite.Value.Elem" 0) ReflectliteValue.elem) Tryd.func67 (by kernel_rfl) (by kernel_rfl) (by kernel_rfl) (by kernel_rfl)
  have hVS := @run_callFunc_extern Tryd.prog 68 _ ReflectliteValue.set Tryd.func68 (by kernel_rfl) (by kernel_rfl) (by kernel_rfl) (by kernel_rfl)
  have mK := method_kind
  have mE := method_elem
  have mI := method_implements
  have mA := method_assignable
  have vP := valueOf_code
  have tP := type_code
  have kP := kind_code
  have kE := kindE_code
  have eP := elem_code
  have iE := implements_code
  have hlt := hg.lt
  have n8 := isNil_code ⟨w.heap.size, 0, none⟩ t ((w.alloc (.cells #[.pointer (some t)] 78)).alloc (.cells #[.pointer (some ⟨7, 78, none⟩), .pointer (some ⟨w.heap.size, 0, none⟩), .int .u64 150] 108)) (by simp)
  have hg2 : ((w.alloc (.cells #[.pointer (some t)] 78)).alloc (.cells #[.pointer (some ⟨7, 78, none⟩), .pointer (some ⟨w.heap.size, 0, none⟩), .int .u64 150] 108)).cell? ⟨0, 0, none⟩ = some (.iface 117 (.agg #[.pointer (some ⟨7, 32, none⟩)])) := by
    rw [World.cell?_alloc_lt _ _ ⟨0, 0, none⟩ (by simp), World.cell?_alloc_lt _ _ ⟨0, 0, none⟩ hlt]; exact hg
  have htl : t.block < w.heap.size := World.block_lt_of_cell? w t ht0
  have el := elemV_code ⟨w.heap.size, 0, none⟩ t (((w.alloc (.cells #[.pointer (some t)] 78)).alloc (.cells #[.pointer (some ⟨7, 78, none⟩), .pointer (some ⟨w.heap.size, 0, none⟩), .int .u64 150] 108)).alloc (.cells #[.pointer (some ⟨7, 78, none⟩), .pointer (some ⟨w.heap.size, 0, none⟩), .int .u64 150] 108)) (by rw [World.cell?_alloc_lt _ _ ⟨w.heap.size, 0, none⟩ (by simp; omega)]; simp)
  have st := set_code t ⟨w.heap.size + 1 + 1 + 1, 0, none⟩ c old ((((w.alloc (.cells #[.pointer (some t)] 78)).alloc (.cells #[.pointer (some ⟨7, 78, none⟩), .pointer (some ⟨w.heap.size, 0, none⟩), .int .u64 150] 108)).alloc (.cells #[.pointer (some ⟨7, 78, none⟩), .pointer (some ⟨w.heap.size, 0, none⟩), .int .u64 150] 108)).alloc (.cells #[.int .i64 c] 56))
    (by rw [World.cell?_alloc_at _ _ _ _ (by simp)]; rfl)
    (by rw [World.cell?_alloc_lt _ _ t (by simp; omega), World.cell?_alloc_lt _ _ t (by simp; omega), World.cell?_alloc_lt _ _ t (by simp; omega), World.cell?_alloc_lt _ _ t htl]; exact ht0)
    (by rw [World.frozen?_alloc_old _ _ t (by simp; omega), World.frozen?_alloc_old _ _ t (by simp; omega), World.frozen?_alloc_old _ _ t (by simp; omega), World.frozen?_alloc_old _ _ t (Nat.ne_of_lt htl)]; exact hf0)
  have HG := Lib.hid hg
  obtain ⟨ty, y, rfl⟩ := er_iface hv
  clear hg hv
  go_enter Tryd.func38, Tryd.ntmps38
  go_wp2
  have HW3 : Holds (((w.alloc (.cells #[.pointer (some t)] 78)).alloc (.cells #[.pointer (some ⟨7, 78, none⟩), .pointer (some ⟨w.heap.size, 0, none⟩), .int .u64 150] 108)).alloc (.cells #[.pointer (some ⟨7, 78, none⟩), .pointer (some ⟨w.heap.size, 0, none⟩), .int .u64 150] 108)) G := fun b o x hx => by
    have h0 := HW.out b o x hx
    have h1 := World.block_lt_of_cell? w _ h0
    simp only at h1
    rw [World.cell?_alloc_lt _ _ ⟨b, o, none⟩ (by simp; omega), World.cell?_alloc_lt _ _ ⟨b, o, none⟩ (by simp; omega), World.cell?_alloc_lt _ _ ⟨b, o, none⟩ h1]
    exact h0
  have HW3 := Lib.hid HW3
  go_loopw [0] (fun i wr => wr = (((w.alloc (.cells #[.pointer (some t)] 78)).alloc (.cells #[.pointer (some ⟨7, 78, none⟩), .pointer (some ⟨w.heap.size, 0, none⟩), .int .u64 150] 108)).alloc (.cells #[.pointer (some ⟨7, 78, none⟩), .pointer (some ⟨w.heap.size, 0, none⟩), .int .u64 150] 108)) ∧ ∃ e' : Er, Rep G i e'.d ∧ e'.inner = c ∧ e'.depth ≤ N) (fun i _ => clen (((w.alloc (.cells #[.pointer (some t)] 78)).alloc (.cells #[.pointer (some ⟨7, 78, none⟩), .pointer (some ⟨w.heap.size, 0, none⟩), .int .u64 150] 108)).alloc (.cells #[.pointer (some ⟨7, 78, none⟩), .pointer (some ⟨w.heap.size, 0, none⟩), .int .u64 150] 108)) N i)
  case atStart => exact ⟨rfl, e, HV.out, HC.out.symm, by rw [HN.out]; exact Nat.le_refl _⟩
  obtain ⟨hwr, e', hr, hi, hd⟩ := hrel
  have HI := Lib.hid hi
  have HD := Lib.hid hd
  clear hi hd
  subst hwr
  cases e' with
  | code c' =>
    have hv := er_code hr
    clear hr
    have hcc : c' = c := HI.out
    subst hcc
    subst hv
    have tO := typeOfE_code
    have aE := assign_code
    have vE := valueOfE_code
    go_wp2
    go_ret
    exact ⟨rfl, rfl⟩
  | fault a f e1 =>
    obtain ⟨bb, o, x, hv, hc0, hc1, hc2, hx⟩ := er_fault hr
    have HR := Lib.hid hr
    clear hr hc0 hc1
    subst hv
    have tO := typeOfE_fault
    have aE := noAssignC_fault
    have h1 := noAs_fault (.pointer (some ⟨bb, o, none⟩))
    have h2 := hasUnwrap_fault (some ⟨bb, o, none⟩)
    have mU := method_unwrap (.pointer (some ⟨bb, o, none⟩))
    have hu := unwrap_cell bb o x (((w.alloc (.cells #[.pointer (some t)] 78)).alloc (.cells #[.pointer (some ⟨7, 78, none⟩), .pointer (some ⟨w.heap.size, 0, none⟩), .int .u64 150] 108)).alloc (.cells #[.pointer (some ⟨7, 78, none⟩), .pointer (some ⟨w.heap.size, 0, none⟩), .int .u64 150] 108)) (HW3.out _ _ _ hc2)
    clear hc2
    have HX := Lib.hid hx
    obtain ⟨ty', y', rfl⟩ := er_iface hx
    clear hx
    go_wp2_with fail
    refine hu.mono ?_
    rintro ev w' ⟨rfl, rfl⟩
    clear hu aE h1 h2 mU tO
    go_wp2_with fail
    have k1 := clen_er HW3.out N (.fault a f e1) _ HR.out HD.out
    have k2 := clen_er HW3.out N e1 _ HX.out (by have := HD.out; rw [Er.depth] at this; omega)
    refine ⟨⟨trivial, e1, HX.out, ?_, ?_⟩, ?_⟩
    · rw [← HI.out]; rfl
    · have := HD.out; rw [Er.depth] at this; omega
    · rw [k1, k2, Er.depth]; omega
theorem as_code_chain' (G : Gh) (e : Er) (v : Value) (b : Nat) (old : Value) (w : World) (hw : Holds w G) (hv : Rep G v e.d) (hg : ErrT w) (hb : w.heap[b]? = some (.cells #[old] 56 (0, 0))) :
    Calls Tryd.prog 38 #[v, .iface 78 (.pointer (some ⟨b, 0, none⟩))] w fun ev w' => ev = .returned (.bool true) ∧ w'.heap[b]? = some (.cells #[.int .i64 e.inner] 56 (0, 0)) ∧ w.grownBy w' (some b) := by
  have hlt : b < w.heap.size := (Array.getElem?_eq_some_iff.1 hb).1
  refine (as_code_chain G e v ⟨b, 0, none⟩ old w hw hv hg (by simp [World.cell?, hb]) (by simp [World.frozen?, hb])).mono ?_
  rintro ev w' ⟨rfl, rfl⟩
  refine ⟨rfl, ?_, ⟨rfl, rfl, rfl, by simp; omega, fun k hk hne => ?_⟩⟩
  · have h4 : ((((w.alloc (.cells #[.pointer (some ⟨b, 0, none⟩)] 78)).alloc (.cells #[.pointer (some ⟨7, 78, none⟩), .pointer (some ⟨w.heap.size, 0, none⟩), .int .u64 150] 108)).alloc (.cells #[.pointer (some ⟨7, 78, none⟩), .pointer (some ⟨w.heap.size, 0, none⟩), .int .u64 150] 108)).alloc (.cells #[.int .i64 e.inner] 56)).heap[b]? = some (.cells #[old] 56 (0, 0)) := by
      rw [heap_alloc_old _ _ (by simp; omega), heap_alloc_old _ _ (by simp; omega), heap_alloc_old _ _ (by simp; omega), heap_alloc_old _ _ hlt]
      exact hb
    have := heap_setCell_same _ b 0 #[old] 56 (.int .i64 e.inner) h4
    simpa using this
  · rw [heap_setCell_other _ _ _ _ (fun e => hne (by rw [e])), heap_alloc_old _ _ (by simp; omega), heap_alloc_old _ _ (by simp; omega), heap_alloc_old _ _ (by simp; omega), heap_alloc_old _ _ hk]
theorem as_hit_fault' (p : Addr) (b : Nat) (old : Value) (w : World) (hg : ErrT w) (hb : w.heap[b]? = some (.cells #[old] 79 (0, 0))) :
    Calls Tryd.prog 38 #[.iface 79 (.pointer (some p)), .iface 80 (.pointer (some ⟨b, 0, none⟩))] w fun ev w' => ev = .returned (.bool true) ∧ w'.heap[b]? = some (.cells #[.pointer (some p)] 79 (0, 0)) ∧ w.grownBy w' (some b) := by
  have hlt : b < w.heap.size := (Array.getElem?_eq_some_iff.1 hb).1
  refine (as_hit_fault p ⟨b, 0, none⟩ old w hg (by simp [World.cell?, hb]) (by simp [World.frozen?, hb])).mono ?_
  rintro ev w' ⟨rfl, rfl⟩
  refine ⟨rfl, ?_, ⟨rfl, rfl, rfl, by simp; omega, fun k hk hne => ?_⟩⟩
  · have h4 : ((((w.alloc (.cells #[.pointer (some ⟨b, 0, none⟩)] 80)).alloc (.cells #[.pointer (some ⟨7, 80, none⟩), .pointer (some ⟨w.heap.size, 0, none⟩), .int .u64 150] 108)).alloc (.cells #[.pointer (some ⟨7, 80, none⟩), .pointer (some ⟨w.heap.size, 0, none⟩), .int .u64 150] 108)).alloc (.cells #[.pointer (some p)] 79)).heap[b]? = some (.cells #[old] 79 (0, 0)) := by
      rw [heap_alloc_old _ _ (by simp; omega), heap_alloc_old _ _ (by simp; omega), heap_alloc_old _ _ (by simp; omega), heap_alloc_old _ _ hlt]
      exact hb
    have := heap_setCell_same _ b 0 #[old] 79 (.pointer (some p)) h4
    simpa using this
  · rw [heap_setCell_other _ _ _ _ (fun e => hne (by rw [e])), heap_alloc_old _ _ (by simp; omega), heap_alloc_old _ _ (by simp; omega), heap_alloc_old _ _ (by simp; omega), heap_alloc_old _ _ hk]
theorem as_miss_fault' (c : Int) (b : Nat) (old : Value) (w : World) (hg : ErrT w) (hb : w.heap[b]? = some (.cells #[old] 79 (0, 0))) :
    Calls Tryd.prog 38 #[.iface 56 (.int .i64 c), .iface 80 (.pointer (some ⟨b, 0, none⟩))] w fun ev w' => ev = .returned (.bool false) ∧ Below w.heap.size w w' := by
  refine (as_miss_fault c ⟨b, 0, none⟩ old w hg (by simp [World.cell?, hb])).mono ?_
  rintro e w' ⟨rfl, rfl⟩
  refine ⟨rfl, ?_⟩
  refine Below.alloc (Below.alloc (Below.alloc (Below.refl _ _) (Nat.le_refl _) _) (by simp) _) (by simp; omega) _
end Go.Proofs.YtmjendeigjdihaaDoor
/-
  errors.As, errors.Is at errors, as they are reasoned about.
-/
namespace Go.Proofs.YtmjendeigjdihaaDoor
open Go.RowKit
set_option maxRecDepth 100000
set_option linter.unusedVariables false
set_option linter.unusedSimpArgs false

theorem Sim.holds {base w : World} {G : Gh} {σ : St} (h : Sim base w G σ) : Holds w G := fun b o v hv => (h.data b o v hv).1
theorem Sim.errT {base w : World} {G : Gh} {σ : St} (h : Sim base w G σ) : ErrT w := by
  have h1 := h.ok.errT
  unfold ErrT
  exact (h.below.cell (World.block_lt_of_cell? _ _ h1)).trans h1
theorem args2_inv {G : Gh} {vs : List Value} {d e : D} (h : RepL G vs [d, e]) : ∃ x y, vs = [x, y] ∧ Rep G x d ∧ Rep G y e := by
  obtain ⟨x, xs, rfl, hx, h⟩ := h.inv
  obtain ⟨y, ys, rfl, hy, h⟩ := h.inv
  rw [h.inv0]
  exact ⟨x, y, rfl, hx, hy⟩
theorem iface_inv {G : Gh} {v : Value} {t : TypeId} {y : Value} (h : Rep G v (.iface t (.v y))) : v = .iface t y := by
  cases h with
  | iface _ x _ hr => rw [hr.v_inv]
theorem box1_inv {base w : World} {G : Gh} {σ : St} (h : Sim base w G σ) {b : Nat} {T : TypeId} {d : D} (hb : σ.own b = some (.box T [d])) : base.heap.size ≤ b ∧ (∀ o, G b o = none) ∧ ∃ x, w.heap[b]? = some (.cells #[x] T (0, 0)) := by
  obtain ⟨h1, h2, vs, h3, h4, _⟩ := h.own b _ hb
  obtain ⟨x, xs, rfl, _, h5⟩ := h4.inv
  rw [h5.inv0] at h3
  exact ⟨h1, h2, x, h3⟩
theorem box1_put {base w w' : World} {G : Gh} {σ : St} (h : Sim base w G σ) {b : Nat} {T : TypeId} {d d' : D} {y : Value} (hb : σ.own b = some (.box T [d])) (hy : Rep G y d') (h1 : y.oneCell' = true) (hw : w'.heap[b]? = some (.cells #[y] T (0, 0))) (hg : w.grownBy w' (some b)) : Sim base w' G (σ.set b (some (.box T [d']))) := by
  obtain ⟨k1, k2, _⟩ := box1_inv h hb
  refine h.upd _ (h.below.grown hg h.below.size (fun k hk => by injection hk with hk; omega)) (fun k hk hne => hg.block k hk (fun e => hne (Option.some.inj e))) G.le_refl (fun _ _ _ => rfl) (fun o v hv => by rw [k2 o] at hv; cases hv) (fun z hz => ?_)
  injection hz with hz
  subst hz
  exact ⟨k1, k2, [y], hw, (RepL.nil G).cons hy, fun x hx => by rw [List.mem_singleton.1 hx]; exact h1⟩
theorem asCodeT (e : Er) (b : Nat) (d0 : D) (σ : St) (hσ : σ.own b = some (.box 56 [d0])) : Tri Tryd.prog 38 [e.d, .iface 78 (.at b 0)] σ fun d τ => d = .b true ∧ τ = σ.set b (some (.box 56 [.i e.inner])) := by
  intro base w G vs hS hA
  obtain ⟨v, t, rfl, hv, ht⟩ := args2_inv hA
  rw [iface_inv ht]
  obtain ⟨_, _, x, hb⟩ := box1_inv hS hσ
  refine (as_code_chain' G e v b x w hS.holds hv hS.errT hb).mono ?_
  rintro ev w' ⟨rfl, h1, h2⟩
  exact ⟨_, G, G.le_refl, box1_put hS hσ (.v _) rfl h1 h2, .inl ⟨_, _, rfl, .v _, rfl, rfl⟩⟩
theorem asFaultT (a : Int) (f : ByteArray) (e : Er) (b : Nat) (d0 : D) (σ : St) (hσ : σ.own b = some (.box 79 [d0])) : Tri Tryd.prog 38 [(Er.fault a f e).d, .iface 80 (.at b 0)] σ fun d τ => d = .b true ∧ τ = σ.set b (some (.box 79 [.ptr [.i a, .s f, e.d]])) := by
  intro base w G vs hS hA
  obtain ⟨v, t, rfl, hv, ht⟩ := args2_inv hA
  rw [iface_inv ht]
  obtain ⟨_, _, x, hb⟩ := box1_inv hS hσ
  rw [Er.d] at hv
  cases hv with
  | iface _ y _ hr =>
    obtain ⟨p, rfl⟩ : ∃ p, y = .pointer (some p) := by cases hr; exact ⟨_, rfl⟩
    refine (as_hit_fault' p b x w hS.errT hb).mono ?_
    rintro ev w' ⟨rfl, h1, h2⟩
    exact ⟨_, G, G.le_refl, box1_put hS hσ hr rfl h1 h2, .inl ⟨_, _, rfl, .v _, rfl, rfl⟩⟩
theorem asMissT (c : Int) (b : Nat) (d0 : D) (σ : St) (hσ : σ.own b = some (.box 79 [d0])) : Tri Tryd.prog 38 [(Er.code c).d, .iface 80 (.at b 0)] σ fun d τ => d = .b false ∧ τ = σ := by
  intro base w G vs hS hA
  obtain ⟨v, t, rfl, hv, ht⟩ := args2_inv hA
  rw [iface_inv ht, er_code hv]
  obtain ⟨_, _, x, hb⟩ := box1_inv hS hσ
  refine (as_miss_fault' c b x w hS.errT hb).mono ?_
  rintro ev w' ⟨rfl, h1⟩
  exact ⟨_, G, G.le_refl, hS.grow h1, .inl ⟨_, _, rfl, .v _, rfl, rfl⟩⟩
theorem isErT (e : Er) (b : Int) (σ : St) : Tri Tryd.prog 22 [e.d, .iface 56 (.i b)] σ fun d τ => d = .b (decide (e.inner = b)) ∧ τ = σ := by
  intro base w G vs hS hA
  obtain ⟨v, t, rfl, hv, ht⟩ := args2_inv hA
  rw [iface_inv ht]
  refine (errors_Is_chain G e b v w hS.holds hv).mono ?_
  rintro ev w' ⟨rfl, rfl⟩
  exact ⟨_, G, G.le_refl, hS, .inl ⟨_, _, rfl, .v _, rfl, rfl⟩⟩
end Go.Proofs.YtmjendeigjdihaaDoor
/-
  Tell: an error as it is told.
-/
namespace Go.Proofs.YtmjendeigjdihaaDoor
open Go.RowKit
set_option maxRecDepth 100000
set_option linter.unusedVariables false
set_option linter.unusedSimpArgs false
attribute [local irreducible] awp aops aop aput aseq ablock TriX Tri Ret Fresh dq adraw dtail dals dfin Wk
attribute [local simp] ErT.d

@[local simp] theorem none_code : ErT.none.code = 0 := rfl
@[local simp] theorem none_at : ErT.none.at_ = -1 := rfl
@[local simp] theorem none_path : ErT.none.path = ByteArray.empty := rfl
def erDep : Nat → D → Nat
  | 0, _ => 0
  | n + 1, .iface _ (.ptr [_, _, d]) => erDep n d + 1
  | _ + 1, _ => 0
theorem erDep_d : ∀ (n : Nat) (e : Er), e.depth ≤ n → erDep n e.d = e.depth
  | 0, .code c, _ => rfl
  | 0, .fault a f e, h => by rw [Er.depth] at h; omega
  | n + 1, .code c, _ => rfl
  | n + 1, .fault a f e, h => by
    rw [Er.depth] at h ⊢
    rw [Er.d, erDep, erDep_d n e (by omega)]
theorem awp_nm5 {P : Program} {n : Nat} {c : Code} {K : AEx → Fr → St → Prop} {F : Fr} {σ : St} {b2 b3 b4 b5 : Nat} {x2 x3 x4 y3 x5 : Option Own}
    (h : ∀ c2 c3 c4 c5, c2 = b2 → c3 = b3 → c4 = b4 → c5 = b5 → awp P n c K F (((((σ.set c2 x2).set c3 x3).set c4 x4).set c3 y3).set c5 x5)) : awp P n c K F (((((σ.set b2 x2).set b3 x3).set b4 x4).set b3 y3).set b5 x5) := h _ _ _ _ rfl rfl rfl rfl
theorem tellNilT (σ : St) : Tri Tryd.prog 12 [.v .nilIface] σ fun d τ => d = .agg (told none).d ∧ τ = σ := by
  refine tri_fn Tryd.func12 rfl Tryd.ntmps12 Tryd.results12 (Nat.le_of_ble_eq_true rfl) ?_
  refine' wlk1 noneT
  ((try simp [*]); (try simp (discharger := omega) only [wrap_i64, dec_t, dec_f]))
  exact .mk _ σ (.refl _) leT ⟨rfl, rfl⟩
theorem tell_size (e : Er) (a : Int) (p : ByteArray) : p.size ≤ (e.tell a p).2.size := by
  rw [Er.tell_path, ByteArray.size_append]
  omega
set_option maxHeartbeats 8000000 in
theorem tellT (e : Er) (σ : St) (hb : (e.tell (-1) ByteArray.empty).2.size ≤ 9223372036854775807) : Tri Tryd.prog 12 [e.d] σ fun d τ => d = .agg (told (some e)).d ∧ τ = σ := by
  obtain ⟨ty, y, hd⟩ := e.d_iface'
  have AC := Lib.hid (fun b σ h => asCodeT e b (.i 0) σ h)
  have HB := Lib.hid hb
  have HD := Lib.hid hd
  rw [hd] at AC ⊢
  obtain ⟨inn, hin⟩ : ∃ inn, inn = e.inner := ⟨_, rfl⟩
  rw [← hin] at AC
  have HIN := Lib.hid hin
  clear hb hd hin
  refine tri_fn Tryd.func12 rfl Tryd.ntmps12 Tryd.results12 (Nat.le_of_ble_eq_true rfl) ?_
  repeat (first | ((first | refine aops_cons (fun K9 hO => ?_) | (refine aops_guardT rfl ?_ (fun K9 hO => ?_); (focus (simp [*]; done)))); simp [*]; (try simp (discharger := omega) only [wrap_i64, dec_t, dec_f]); (first | ((try (first | refine .inl ⟨by omega, by omega, ?_⟩ | refine ⟨by omega, by omega, ?_⟩ | refine ⟨by omega, ?_⟩ | refine .inl ?_)); (first | (intro b; intros; (try have hneA := ne_own (b := b) hown1 (by assumption)); (try have hneB := ne_own (b := b) hown2 (by assumption)); (try have hneC := ne_own (b := b) hown3 (by assumption)); refine hO.out _ _ ?_) | refine hO.out _ _ ?_)) | ((first | refine Tri.call (noneT _) ?_ | refine Tri.call (AC.out _ _ (by simp [*])) ?_); (first | rintro _ _ ⟨rfl, h9⟩; replace h9 := h9.symm; subst h9 | rintro _ _ ⟨_, rfl, rfl⟩ | rintro _ _ ⟨_, _, rfl, rfl⟩ | rintro _ _ ⟨_, _, _, rfl, rfl⟩); refine hO.out _ _ ?_)); clear hO; (try clear K9); (first | refine aput_some (by decide) ?_ | refine aput_none ?_)) | refine aops_nil ?_ | refine aseq_normal ?_ | refine aseq_ret ?_ | refine aseq_exit ?_ | refine ablock_normal ?_ | refine ablock_ret ?_ | refine ablock_same ?_ | refine ablock_other (by decide) ?_ | ((repeat ((fail_if_success (refine hK.out _ _ ?_)); clear hK; (try clear hP EG); (try clear KS))); refine hK.out _ _ ?_; clear hK; (try clear hP EG); try clear KS) | refine awp_seq (fun KS hK => ?_) | refine awp_region (fun KS EG hK hP => ?_) | refine awp_block ?_ | refine awp_skip ?_ | refine awp_ret ?_ | refine awp_exit ?_ | (refine awp_condT ?_ ?_; (focus (simp [*]; done))) | (refine awp_condF ?_ ?_; (focus (simp [*]; done))) | ((first | (refine aops_guardF rfl ?_ ?_; (focus (simp [*]; done))) | (refine aops_guardU rfl ?_ ?_; (focus (simp [*]; done)))); (first | refine aput_some (by decide) ?_ | refine aput_none ?_)))
  refine awp_nm5 ?_
  intro b2 b3 b4 b5 e2 e3 e4 e5
  subst e2 e3 e4 e5
  rw [set_over _ _ _ _ (by assumption)]
  obtain ⟨σ1, hσ1⟩ : ∃ σ1, σ1 = (σ.set b2 (some (.box 29 [.i 0, .i 0, .s ByteArray.empty]))).set b4 (some (.box 56 [.i inn])) := ⟨_, rfl⟩
  have hown1 : σ1.own b2 = some (.box 29 [.i 0, .i 0, .s ByteArray.empty]) := by rw [hσ1]; simp [*]
  have hf3 : Fresh σ1 b3 := by rw [hσ1]; simp [*]
  have hf5 : Fresh σ1 b5 := by rw [hσ1]; simp [*]
  have HLE := Lib.hid (show σ.le σ1 from hσ1 ▸ St.le_set (St.le_set (St.le_refl _) (by assumption)) (by assumption))
  rw [← hσ1]
  clear hσ1
  obtain ⟨N, hN⟩ : ∃ N, N = e.depth := ⟨_, rfl⟩
  have HN := Lib.hid hN
  clear hN
  refine awp_loopM [0, 16, 17, 18, 19, 20, 21, 22, 23, 24, 25, 26, 27, 28, 29, 30, 31, 32, 33, 34, 35, 36, 37, 38, 39, 40, 41, 42, 43, 44, 45, 46, 47, 48, 49, 50, 51, 52, 53, 54, 55, 56, 57, 58, 59, 60, 61, 62, 63, 64, 65, 66] (fun X τ => ∃ (e' : Er) (a : Int) (p : ByteArray) (dP : D), X 0 = e'.d ∧ Hid (e'.tell a p = e.tell (-1) ByteArray.empty ∧ e'.depth ≤ N) ∧ τ = (σ1.set b3 (some (.box 29 [.i inn, .i a, .s p]))).set b5 (some (.box 79 [dP]))) (fun X _ => erDep N (X 0)) ?_ ?_
  · refine .same ⟨mix_self _ _, e, -1, ByteArray.empty, .v (.pointer none), ?_, Lib.hid ⟨rfl, by rw [HN.out]; exact Nat.le_refl _⟩, rfl⟩
    rw [HD.out]
    simp [*]
  · rintro X τ ⟨e', a, p, dP, h0, hf, rfl⟩ _ hL
    cases e' with
    | code c =>
      have AM := Lib.hid (fun b σ h => asMissT c b dP σ h)
      have HR := Lib.hid (show told (some e) = ⟨inn, a, p⟩ by
        have := hf.out.1
        rw [Er.tell] at this
        rw [told, ← this, HIN.out])
      rw [Er.d] at h0 AM
      repeat (first | ((first | refine aops_cons (fun K9 hO => ?_) | (refine aops_guardT rfl ?_ (fun K9 hO => ?_); (focus (simp [*]; done)))); simp [*]; (try simp (discharger := omega) only [wrap_i64, dec_t, dec_f]); (first | ((try (first | refine .inl ⟨by omega, by omega, ?_⟩ | refine ⟨by omega, by omega, ?_⟩ | refine ⟨by omega, ?_⟩ | refine .inl ?_)); (first | (intro b; intros; (try have hneA := ne_own (b := b) hown1 (by assumption)); (try have hneB := ne_own (b := b) hown2 (by assumption)); (try have hneC := ne_own (b := b) hown3 (by assumption)); refine hO.out _ _ ?_) | refine hO.out _ _ ?_)) | ((first | refine Tri.call (AM.out _ _ (by simp [*])) ?_); (first | rintro _ _ ⟨rfl, h9⟩; replace h9 := h9.symm; subst h9 | rintro _ _ ⟨_, rfl, rfl⟩ | rintro _ _ ⟨_, _, rfl, rfl⟩ | rintro _ _ ⟨_, _, _, rfl, rfl⟩); refine hO.out _ _ ?_)); clear hO; (try clear K9); (first | refine aput_some (by decide) ?_ | refine aput_none ?_)) | refine aops_nil ?_ | refine aseq_normal ?_ | refine aseq_ret ?_ | refine aseq_exit ?_ | refine ablock_normal ?_ | refine ablock_ret ?_ | refine ablock_same ?_ | refine ablock_other (by decide) ?_ | ((repeat ((fail_if_success (refine hK.out _ _ ?_)); clear hK; (try clear hP EG); (try clear KS))); refine hK.out _ _ ?_; clear hK; (try clear hP EG); try clear KS) | refine awp_seq (fun KS hK => ?_) | refine awp_region (fun KS EG hK hP => ?_) | refine awp_block ?_ | refine awp_skip ?_ | refine awp_ret ?_ | refine awp_exit ?_ | (refine awp_condT ?_ ?_; (focus (simp [*]; done))) | (refine awp_condF ?_ ?_; (focus (simp [*]; done))) | ((first | (refine aops_guardF rfl ?_ ?_; (focus (simp [*]; done))) | (refine aops_guardU rfl ?_ ?_; (focus (simp [*]; done)))); (first | refine aput_some (by decide) ?_ | refine aput_none ?_)))
      ((try simp [*]); (try simp (discharger := omega) only [wrap_i64, dec_t, dec_f]))
      exact .mk _ σ (.refl _) leT ⟨by rw [HR.out]; try rfl, rfl⟩
    | fault fa f e1 =>
      have AF := Lib.hid (fun b σ h => asFaultT fa f e1 b dP σ h)
      have hd1 : erDep N (.iface 79 (.ptr [.i fa, .s f, e1.d])) = e1.depth + 1 := erDep_d N (.fault fa f e1) hf.out.2
      have hd2 := erDep_d N e1 (by have := hf.out.2; rw [Er.depth] at this; omega)
      have HDD := Lib.hid (And.intro hd1 hd2)
      clear hd1 hd2
      have hsz : (e1.tell (if 0 ≤ fa ∧ a < 0 then fa else a) (if ¬ f = ⟨#[]⟩ ∨ fa < 0 then p ++ (ByteArray.mk #[47] ++ f) else p)) = e.tell (-1) ByteArray.empty := hf.out.1
      have HSZ := Lib.hid hsz
      clear hsz
      rw [Er.d] at h0 AF
      by_cases c1 : 0 ≤ fa
      · by_cases c2 : a < 0
        · by_cases c3 : f = ⟨#[]⟩
          · subst c3
            have hs2 := HSZ.out
            rw [show (if 0 ≤ fa ∧ a < 0 then fa else a) = fa from if_pos ⟨c1, c2⟩, if_neg (by rintro (h | h); exact h rfl; omega)] at hs2
            have HS := Lib.hid hs2
            clear hs2
            repeat (first | ((first | refine aops_cons (fun K9 hO => ?_) | (refine aops_guardT rfl ?_ (fun K9 hO => ?_); (focus (simp [*]; done)))); simp [*]; (try simp (discharger := omega) only [wrap_i64, dec_t, dec_f]); (first | ((try (first | refine .inl ⟨by omega, by omega, ?_⟩ | refine ⟨by omega, by omega, ?_⟩ | refine ⟨by omega, ?_⟩ | refine .inl ?_)); (first | (intro b; intros; (try have hneA := ne_own (b := b) hown1 (by assumption)); (try have hneB := ne_own (b := b) hown2 (by assumption)); (try have hneC := ne_own (b := b) hown3 (by assumption)); refine hO.out _ _ ?_) | refine hO.out _ _ ?_)) | ((first | refine Tri.call (AF.out _ _ (by simp [*])) ?_); (first | rintro _ _ ⟨rfl, h9⟩; replace h9 := h9.symm; subst h9 | rintro _ _ ⟨_, rfl, rfl⟩ | rintro _ _ ⟨_, _, rfl, rfl⟩ | rintro _ _ ⟨_, _, _, rfl, rfl⟩); refine hO.out _ _ ?_)); clear hO; (try clear K9); (first | refine aput_some (by decide) ?_ | refine aput_none ?_)) | refine aops_nil ?_ | refine aseq_normal ?_ | refine aseq_ret ?_ | refine aseq_exit ?_ | refine ablock_normal ?_ | refine ablock_ret ?_ | refine ablock_same ?_ | refine ablock_other (by decide) ?_ | ((repeat ((fail_if_success (refine hK.out _ _ ?_)); clear hK; (try clear hP EG); (try clear KS))); refine hK.out _ _ ?_; clear hK; (try clear hP EG); try clear KS) | refine awp_seq (fun KS hK => ?_) | refine awp_region (fun KS EG hK hP => ?_) | refine awp_block ?_ | refine awp_skip ?_ | refine awp_ret ?_ | refine awp_exit ?_ | (refine awp_condT ?_ ?_; (focus (simp [*]; done))) | (refine awp_condF ?_ ?_; (focus (simp [*]; done))) | ((first | (refine aops_guardF rfl ?_ ?_; (focus (simp [*]; done))) | (refine aops_guardU rfl ?_ ?_; (focus (simp [*]; done)))); (first | refine aput_some (by decide) ?_ | refine aput_none ?_)))
            refine hL.out _ _ (.less ((σ1.set b3 _).set b5 _) (by first | exact St.le_refl _ | (rw [set_over _ _ _ _ (by assumption), set_comm σ1 (show b5 ≠ b3 by assumption)]; exact St.le_refl _)) (.same ⟨mixT, ⟨e1, fa, p, _, ?_, Lib.hid ⟨HS.out, by have := hf.out.2; rw [Er.depth] at this; omega⟩, rfl⟩, ?_⟩))
            · simp [*]
            · have hm1 := HDD.out.1
              have hm2 := HDD.out.2
              simp [*]
          · have hs2 := HSZ.out
            rw [show (if 0 ≤ fa ∧ a < 0 then fa else a) = fa from if_pos ⟨c1, c2⟩, if_pos (.inl c3)] at hs2
            have HS := Lib.hid hs2
            have hl := tell_size e1 fa (p ++ (ByteArray.mk #[47] ++ f))
            rw [hs2] at hl
            have hl2 := Nat.le_trans hl HB.out
            have e47 : (ByteArray.mk #[47]).size = 1 := rfl
            rw [ByteArray.size_append, ByteArray.size_append, e47] at hl2
            clear hs2 hl
            repeat (first | ((first | refine aops_cons (fun K9 hO => ?_) | (refine aops_guardT rfl ?_ (fun K9 hO => ?_); (focus (simp [*]; done)))); simp [*]; (try simp (discharger := omega) only [wrap_i64, dec_t, dec_f]); (first | ((try (first | refine .inl ⟨by omega, by omega, ?_⟩ | refine ⟨by omega, by omega, ?_⟩ | refine ⟨by omega, ?_⟩ | refine .inl ?_)); (first | (intro b; intros; (try have hneA := ne_own (b := b) hown1 (by assumption)); (try have hneB := ne_own (b := b) hown2 (by assumption)); (try have hneC := ne_own (b := b) hown3 (by assumption)); refine hO.out _ _ ?_) | refine hO.out _ _ ?_)) | ((first | refine Tri.call (AF.out _ _ (by simp [*])) ?_); (first | rintro _ _ ⟨rfl, h9⟩; replace h9 := h9.symm; subst h9 | rintro _ _ ⟨_, rfl, rfl⟩ | rintro _ _ ⟨_, _, rfl, rfl⟩ | rintro _ _ ⟨_, _, _, rfl, rfl⟩); refine hO.out _ _ ?_)); clear hO; (try clear K9); (first | refine aput_some (by decide) ?_ | refine aput_none ?_)) | refine aops_nil ?_ | refine aseq_normal ?_ | refine aseq_ret ?_ | refine aseq_exit ?_ | refine ablock_normal ?_ | refine ablock_ret ?_ | refine ablock_same ?_ | refine ablock_other (by decide) ?_ | ((repeat ((fail_if_success (refine hK.out _ _ ?_)); clear hK; (try clear hP EG); (try clear KS))); refine hK.out _ _ ?_; clear hK; (try clear hP EG); try clear KS) | refine awp_seq (fun KS hK => ?_) | refine awp_region (fun KS EG hK hP => ?_) | refine awp_block ?_ | refine awp_skip ?_ | refine awp_ret ?_ | refine awp_exit ?_ | (refine awp_condT ?_ ?_; (focus (simp [*]; done))) | (refine awp_condF ?_ ?_; (focus (simp [*]; done))) | ((first | (refine aops_guardF rfl ?_ ?_; (focus (simp [*]; done))) | (refine aops_guardU rfl ?_ ?_; (focus (simp [*]; done)))); (first | refine aput_some (by decide) ?_ | refine aput_none ?_)))
            (refine awp_draw (fun KS EG hK hP => ?_); refine draw_rule rfl [(0, true), (1, false), (2, false), (3, true), (4, true), (5, false), (6, true), (7, true), (8, true)] [] [9] (by kernel_rfl) ?_; refine' dqs0)
            refine' wlk0
            refine hL.out _ _ (.less ((σ1.set b3 _).set b5 _) (by first | exact St.le_refl _ | (rw [set_over _ _ _ _ (by assumption), set_comm σ1 (show b5 ≠ b3 by assumption)]; exact St.le_refl _)) (.same ⟨mixT, ⟨e1, fa, _, _, ?_, Lib.hid ⟨HS.out, by have := hf.out.2; rw [Er.depth] at this; omega⟩, rfl⟩, ?_⟩))
            · simp [*]
            · have hm1 := HDD.out.1
              have hm2 := HDD.out.2
              simp [*]
        · by_cases c3 : f = ⟨#[]⟩
          · subst c3
            have hs2 := HSZ.out
            rw [show (if 0 ≤ fa ∧ a < 0 then fa else a) = a from if_neg (by omega), if_neg (by rintro (h | h); exact h rfl; omega)] at hs2
            have HS := Lib.hid hs2
            clear hs2
            repeat (first | ((first | refine aops_cons (fun K9 hO => ?_) | (refine aops_guardT rfl ?_ (fun K9 hO => ?_); (focus (simp [*]; done)))); simp [*]; (try simp (discharger := omega) only [wrap_i64, dec_t, dec_f]); (first | ((try (first | refine .inl ⟨by omega, by omega, ?_⟩ | refine ⟨by omega, by omega, ?_⟩ | refine ⟨by omega, ?_⟩ | refine .inl ?_)); (first | (intro b; intros; (try have hneA := ne_own (b := b) hown1 (by assumption)); (try have hneB := ne_own (b := b) hown2 (by assumption)); (try have hneC := ne_own (b := b) hown3 (by assumption)); refine hO.out _ _ ?_) | refine hO.out _ _ ?_)) | ((first | refine Tri.call (AF.out _ _ (by simp [*])) ?_); (first | rintro _ _ ⟨rfl, h9⟩; replace h9 := h9.symm; subst h9 | rintro _ _ ⟨_, rfl, rfl⟩ | rintro _ _ ⟨_, _, rfl, rfl⟩ | rintro _ _ ⟨_, _, _, rfl, rfl⟩); refine hO.out _ _ ?_)); clear hO; (try clear K9); (first | refine aput_some (by decide) ?_ | refine aput_none ?_)) | refine aops_nil ?_ | refine aseq_normal ?_ | refine aseq_ret ?_ | refine aseq_exit ?_ | refine ablock_normal ?_ | refine ablock_ret ?_ | refine ablock_same ?_ | refine ablock_other (by decide) ?_ | ((repeat ((fail_if_success (refine hK.out _ _ ?_)); clear hK; (try clear hP EG); (try clear KS))); refine hK.out _ _ ?_; clear hK; (try clear hP EG); try clear KS) | refine awp_seq (fun KS hK => ?_) | refine awp_region (fun KS EG hK hP => ?_) | refine awp_block ?_ | refine awp_skip ?_ | refine awp_ret ?_ | refine awp_exit ?_ | (refine awp_condT ?_ ?_; (focus (simp [*]; done))) | (refine awp_condF ?_ ?_; (focus (simp [*]; done))) | ((first | (refine aops_guardF rfl ?_ ?_; (focus (simp [*]; done))) | (refine aops_guardU rfl ?_ ?_; (focus (simp [*]; done)))); (first | refine aput_some (by decide) ?_ | refine aput_none ?_)))
            refine hL.out _ _ (.less ((σ1.set b3 _).set b5 _) (by first | exact St.le_refl _ | (rw [set_over _ _ _ _ (by assumption), set_comm σ1 (show b5 ≠ b3 by assumption)]; exact St.le_refl _)) (.same ⟨mixT, ⟨e1, a, p, _, ?_, Lib.hid ⟨HS.out, by have := hf.out.2; rw [Er.depth] at this; omega⟩, rfl⟩, ?_⟩))
            · simp [*]
            · have hm1 := HDD.out.1
              have hm2 := HDD.out.2
              simp [*]
          · have hs2 := HSZ.out
            rw [show (if 0 ≤ fa ∧ a < 0 then fa else a) = a from if_neg (by omega), if_pos (.inl c3)] at hs2
            have HS := Lib.hid hs2
            have hl := tell_size e1 a (p ++ (ByteArray.mk #[47] ++ f))
            rw [hs2] at hl
            have hl2 := Nat.le_trans hl HB.out
            have e47 : (ByteArray.mk #[47]).size = 1 := rfl
            rw [ByteArray.size_append, ByteArray.size_append, e47] at hl2
            clear hs2 hl
            repeat (first | ((first | refine aops_cons (fun K9 hO => ?_) | (refine aops_guardT rfl ?_ (fun K9 hO => ?_); (focus (simp [*]; done)))); simp [*]; (try simp (discharger := omega) only [wrap_i64, dec_t, dec_f]); (first | ((try (first | refine .inl ⟨by omega, by omega, ?_⟩ | refine ⟨by omega, by omega, ?_⟩ | refine ⟨by omega, ?_⟩ | refine .inl ?_)); (first | (intro b; intros; (try have hneA := ne_own (b := b) hown1 (by assumption)); (try have hneB := ne_own (b := b) hown2 (by assumption)); (try have hneC := ne_own (b := b) hown3 (by assumption)); refine hO.out _ _ ?_) | refine hO.out _ _ ?_)) | ((first | refine Tri.call (AF.out _ _ (by simp [*])) ?_); (first | rintro _ _ ⟨rfl, h9⟩; replace h9 := h9.symm; subst h9 | rintro _ _ ⟨_, rfl, rfl⟩ | rintro _ _ ⟨_, _, rfl, rfl⟩ | rintro _ _ ⟨_, _, _, rfl, rfl⟩); refine hO.out _ _ ?_)); clear hO; (try clear K9); (first | refine aput_some (by decide) ?_ | refine aput_none ?_)) | refine aops_nil ?_ | refine aseq_normal ?_ | refine aseq_ret ?_ | refine aseq_exit ?_ | refine ablock_normal ?_ | refine ablock_ret ?_ | refine ablock_same ?_ | refine ablock_other (by decide) ?_ | ((repeat ((fail_if_success (refine hK.out _ _ ?_)); clear hK; (try clear hP EG); (try clear KS))); refine hK.out _ _ ?_; clear hK; (try clear hP EG); try clear KS) | refine awp_seq (fun KS hK => ?_) | refine awp_region (fun KS EG hK hP => ?_) | refine awp_block ?_ | refine awp_skip ?_ | refine awp_ret ?_ | refine awp_exit ?_ | (refine awp_condT ?_ ?_; (focus (simp [*]; done))) | (refine awp_condF ?_ ?_; (focus (simp [*]; done))) | ((first | (refine aops_guardF rfl ?_ ?_; (focus (simp [*]; done))) | (refine aops_guardU rfl ?_ ?_; (focus (simp [*]; done)))); (first | refine aput_some (by decide) ?_ | refine aput_none ?_)))
            (refine awp_draw (fun KS EG hK hP => ?_); refine draw_rule rfl [(0, true), (1, false), (2, false), (3, true), (4, true), (5, false), (6, true), (7, true), (8, true)] [] [9] (by kernel_rfl) ?_; refine' dqs0)
            refine' wlk0
            refine hL.out _ _ (.less ((σ1.set b3 _).set b5 _) (by first | exact St.le_refl _ | (rw [set_over _ _ _ _ (by assumption), set_comm σ1 (show b5 ≠ b3 by assumption)]; exact St.le_refl _)) (.same ⟨mixT, ⟨e1, a, _, _, ?_, Lib.hid ⟨HS.out, by have := hf.out.2; rw [Er.depth] at this; omega⟩, rfl⟩, ?_⟩))
            · simp [*]
            · have hm1 := HDD.out.1
              have hm2 := HDD.out.2
              simp [*]
      · have c1' : fa < 0 := by omega
        by_cases c3 : f = ⟨#[]⟩
        · subst c3
          have hs2 := HSZ.out
          rw [show (if 0 ≤ fa ∧ a < 0 then fa else a) = a from if_neg (by omega), if_pos (.inr c1')] at hs2
          have HS := Lib.hid hs2
          have hl := tell_size e1 a (p ++ (ByteArray.mk #[47] ++ ⟨#[]⟩))
          rw [hs2] at hl
          have hl2 := Nat.le_trans hl HB.out
          have e47 : (ByteArray.mk #[47]).size = 1 := rfl
          rw [ByteArray.size_append, ByteArray.size_append, e47] at hl2
          clear hs2 hl
          repeat (first | ((first | refine aops_cons (fun K9 hO => ?_) | (refine aops_guardT rfl ?_ (fun K9 hO => ?_); (focus (simp [*]; done)))); simp [*]; (try simp (discharger := omega) only [wrap_i64, dec_t, dec_f]); (first | ((try (first | refine .inl ⟨by omega, by omega, ?_⟩ | refine ⟨by omega, by omega, ?_⟩ | refine ⟨by omega, ?_⟩ | refine .inl ?_)); (first | (intro b; intros; (try have hneA := ne_own (b := b) hown1 (by assumption)); (try have hneB := ne_own (b := b) hown2 (by assumption)); (try have hneC := ne_own (b := b) hown3 (by assumption)); refine hO.out _ _ ?_) | refine hO.out _ _ ?_)) | ((first | refine Tri.call (AF.out _ _ (by simp [*])) ?_); (first | rintro _ _ ⟨rfl, h9⟩; replace h9 := h9.symm; subst h9 | rintro _ _ ⟨_, rfl, rfl⟩ | rintro _ _ ⟨_, _, rfl, rfl⟩ | rintro _ _ ⟨_, _, _, rfl, rfl⟩); refine hO.out _ _ ?_)); clear hO; (try clear K9); (first | refine aput_some (by decide) ?_ | refine aput_none ?_)) | refine aops_nil ?_ | refine aseq_normal ?_ | refine aseq_ret ?_ | refine aseq_exit ?_ | refine ablock_normal ?_ | refine ablock_ret ?_ | refine ablock_same ?_ | refine ablock_other (by decide) ?_ | ((repeat ((fail_if_success (refine hK.out _ _ ?_)); clear hK; (try clear hP EG); (try clear KS))); refine hK.out _ _ ?_; clear hK; (try clear hP EG); try clear KS) | refine awp_seq (fun KS hK => ?_) | refine awp_region (fun KS EG hK hP => ?_) | refine awp_block ?_ | refine awp_skip ?_ | refine awp_ret ?_ | refine awp_exit ?_ | (refine awp_condT ?_ ?_; (focus (simp [*]; done))) | (refine awp_condF ?_ ?_; (focus (simp [*]; done))) | ((first | (refine aops_guardF rfl ?_ ?_; (focus (simp [*]; done))) | (refine aops_guardU rfl ?_ ?_; (focus (simp [*]; done)))); (first | refine aput_some (by decide) ?_ | refine aput_none ?_)))
          (refine awp_draw (fun KS EG hK hP => ?_); refine draw_rule rfl [(0, true), (1, false), (2, false), (3, true), (4, true), (5, false), (6, true), (7, true), (8, true)] [] [9] (by kernel_rfl) ?_; refine' dqs0)
          refine' wlk0
          refine hL.out _ _ (.less ((σ1.set b3 _).set b5 _) (by first | exact St.le_refl _ | (rw [set_over _ _ _ _ (by assumption), set_comm σ1 (show b5 ≠ b3 by assumption)]; exact St.le_refl _)) (.same ⟨mixT, ⟨e1, a, _, _, ?_, Lib.hid ⟨HS.out, by have := hf.out.2; rw [Er.depth] at this; omega⟩, rfl⟩, ?_⟩))
          · simp [*]
          · have hm1 := HDD.out.1
            have hm2 := HDD.out.2
            simp [*]
        · have hs2 := HSZ.out
          rw [show (if 0 ≤ fa ∧ a < 0 then fa else a) = a from if_neg (by omega), if_pos (.inl c3)] at hs2
          have HS := Lib.hid hs2
          have hl := tell_size e1 a (p ++ (ByteArray.mk #[47] ++ f))
          rw [hs2] at hl
          have hl2 := Nat.le_trans hl HB.out
          have e47 : (ByteArray.mk #[47]).size = 1 := rfl
          rw [ByteArray.size_append, ByteArray.size_append, e47] at hl2
          clear hs2 hl
          repeat (first | ((first | refine aops_cons (fun K9 hO => ?_) | (refine aops_guardT rfl ?_ (fun K9 hO => ?_); (focus (simp [*]; done)))); simp [*]; (try simp (discharger := omega) only [wrap_i64, dec_t, dec_f]); (first | ((try (first | refine .inl ⟨by omega, by omega, ?_⟩ | refine ⟨by omega, by omega, ?_⟩ | refine ⟨by omega, ?_⟩ | refine .inl ?_)); (first | (intro b; intros; (try have hneA := ne_own (b := b) hown1 (by assumption)); (try have hneB := ne_own (b := b) hown2 (by assumption)); (try have hneC := ne_own (b := b) hown3 (by assumption)); refine hO.out _ _ ?_) | refine hO.out _ _ ?_)) | ((first | refine Tri.call (AF.out _ _ (by simp [*])) ?_); (first | rintro _ _ ⟨rfl, h9⟩; replace h9 := h9.symm; subst h9 | rintro _ _ ⟨_, rfl, rfl⟩ | rintro _ _ ⟨_, _, rfl, rfl⟩ | rintro _ _ ⟨_, _, _, rfl, rfl⟩); refine hO.out _ _ ?_)); clear hO; (try clear K9); (first | refine aput_some (by decide) ?_ | refine aput_none ?_)) | refine aops_nil ?_ | refine aseq_normal ?_ | refine aseq_ret ?_ | refine aseq_exit ?_ | refine ablock_normal ?_ | refine ablock_ret ?_ | refine ablock_same ?_ | refine ablock_other (by decide) ?_ | ((repeat ((fail_if_success (refine hK.out _ _ ?_)); clear hK; (try clear hP EG); (try clear KS))); refine hK.out _ _ ?_; clear hK; (try clear hP EG); try clear KS) | refine awp_seq (fun KS hK => ?_) | refine awp_region (fun KS EG hK hP => ?_) | refine awp_block ?_ | refine awp_skip ?_ | refine awp_ret ?_ | refine awp_exit ?_ | (refine awp_condT ?_ ?_; (focus (simp [*]; done))) | (refine awp_condF ?_ ?_; (focus (simp [*]; done))) | ((first | (refine aops_guardF rfl ?_ ?_; (focus (simp [*]; done))) | (refine aops_guardU rfl ?_ ?_; (focus (simp [*]; done)))); (first | refine aput_some (by decide) ?_ | refine aput_none ?_)))
          (refine awp_draw (fun KS EG hK hP => ?_); refine draw_rule rfl [(0, true), (1, false), (2, false), (3, true), (4, true), (5, false), (6, true), (7, true), (8, true)] [] [9] (by kernel_rfl) ?_; refine' dqs0)
          refine' wlk0
          refine hL.out _ _ (.less ((σ1.set b3 _).set b5 _) (by first | exact St.le_refl _ | (rw [set_over _ _ _ _ (by assumption), set_comm σ1 (show b5 ≠ b3 by assumption)]; exact St.le_refl _)) (.same ⟨mixT, ⟨e1, a, _, _, ?_, Lib.hid ⟨HS.out, by have := hf.out.2; rw [Er.depth] at this; omega⟩, rfl⟩, ?_⟩))
          · simp [*]
          · have hm1 := HDD.out.1
            have hm2 := HDD.out.2
            simp [*]
end Go.Proofs.YtmjendeigjdihaaDoor
/-
  Less is known of arguments: within lists, too.
-/
namespace Go.Proofs.YtmjendeigjdihaaDoor
open Go.RowKit

/-- Whatever is the one is the other. -/
def LeG (d d' : D) : Prop := ∀ (G : Gh) (x : Value), Rep G x d → Rep G x d'
inductive LeGL : List D → List D → Prop where
  | nil : LeGL [] []
  | cons {d d' : D} {l l' : List D} (h : LeG d d') (k : LeGL l l') : LeGL (d :: l) (d' :: l')
theorem LeG.refl (d : D) : LeG d d := fun _ _ h => h
theorem LeG.of {d d' : D} (h : D.Le d d') : LeG d d' := fun _ _ k => k.le h
theorem LeGL.refl : ∀ l : List D, LeGL l l
  | [] => .nil
  | d :: l => .cons (.refl d) (LeGL.refl l)
theorem LeGL.len {l l' : List D} (h : LeGL l l') : l.length = l'.length := by induction h with | nil => rfl | cons _ _ ih => rw [List.length_cons, List.length_cons, ih]
theorem LeGL.at {l l' : List D} (h : LeGL l l') : ∀ (k : Nat) (d' : D), l'[k]? = some d' → ∃ d, l[k]? = some d ∧ LeG d d' := by
  induction h with
  | nil => intro k d' h; simp at h
  | cons h _ ih =>
    intro k d' h2
    cases k with
    | zero => simp at h2; subst h2; exact ⟨_, rfl, h⟩
    | succ k => obtain ⟨d, h1, h3⟩ := ih k d' (by simpa using h2); exact ⟨d, by simpa using h1, h3⟩
theorem LeGL.append {a a' b b' : List D} (h : LeGL a a') (k : LeGL b b') : LeGL (a ++ b) (a' ++ b') := by
  induction h with
  | nil => exact k
  | cons h _ ih => exact .cons h ih
theorem LeG.agg {l l' : List D} (h : LeGL l l') : LeG (.agg l) (.agg l') := fun G x hx => by
  cases hx with
  | agg vs _ hl h1 hrep =>
    refine .agg vs l' (by rw [hl, h.len]) h1 fun k y d hk hd => ?_
    obtain ⟨d0, h2, h3⟩ := h.at k d hd
    exact h3 G y (hrep k y d0 hk h2)
theorem LeG.ptr {l l' : List D} (h : LeGL l l') : LeG (.ptr l) (.ptr l') := fun G x hx => by
  cases hx with
  | ptr a _ vals hs hcell hrep =>
    refine .ptr a l' vals hs (fun k hk => hcell k (by rw [h.len]; exact hk)) fun k d hd => ?_
    obtain ⟨d0, h2, h3⟩ := h.at k d hd
    exact h3 G _ (hrep k d0 h2)
/-- Lists' elements. -/
inductive LeGS : List (List D) → List (List D) → Prop where
  | nil : LeGS [] []
  | cons {a a' : List D} {l l' : List (List D)} (h : LeGL a a') (k : LeGS l l') : LeGS (a :: l) (a' :: l')
theorem LeGS.len {l l' : List (List D)} (h : LeGS l l') : l.length = l'.length := by induction h with | nil => rfl | cons _ _ ih => rw [List.length_cons, List.length_cons, ih]
theorem LeGS.flat {l l' : List (List D)} (h : LeGS l l') : LeGL l.flatten l'.flatten := by
  induction h with
  | nil => exact .nil
  | cons h _ ih => rw [List.flatten_cons, List.flatten_cons]; exact h.append ih
theorem LeGS.size {l l' : List (List D)} (h : LeGS l l') {sz : Nat} (hs : ∀ c ∈ l, c.length = sz) : ∀ c ∈ l', c.length = sz := by
  induction h with
  | nil => intro c hc; cases hc
  | cons h _ ih =>
    intro c hc
    rcases List.mem_cons.1 hc with rfl | hc
    · rw [← h.len]; exact hs _ List.mem_cons_self
    · exact ih (fun c hc => hs c (List.mem_cons_of_mem _ hc)) c hc
theorem LeGS.of_map {α : Type} {f g : α → List D} : ∀ (l : List α), (∀ x ∈ l, LeGL (f x) (g x)) → LeGS (l.map f) (l.map g)
  | [], _ => .nil
  | x :: l, h => .cons (h x List.mem_cons_self) (LeGS.of_map l fun y hy => h y (List.mem_cons_of_mem _ hy))
theorem LeG.sl {tip : Option (Nat × Nat)} {full : Bool} {sz : Nat} {ds ds' : List (List D)} (h : LeGS ds ds') : LeG (.slice tip full sz ds) (.lst false sz ds') := fun G x hx => by
  have hx := hx.tipless
  cases hx with
  | slice a c _ _ _ _ vals hs hc hfull hsz hcell hrep htip =>
    have e := h.len
    rw [e]
    refine .lst _ _ _ _ (.slice a c none false sz ds' vals (fun hne => hs (by rintro rfl; exact hne (by cases h; rfl))) (by rw [← e]; exact hc) (by simp) (h.size hsz) (fun k hk => hcell k (by rw [e]; exact hk)) (fun k d hd => ?_) (by simp))
    obtain ⟨d0, h2, h3⟩ := h.flat.at k d hd
    exact h3 G _ (hrep k d0 h2)
theorem LeG.lst {full : Bool} {sz : Nat} {ds ds' : List (List D)} (h : LeGS ds ds') : LeG (.lst full sz ds) (.lst false sz ds') := fun G x hx => by
  cases hx with
  | lst0 => cases h; exact .lst0 _ _
  | lst _ _ _ _ hx => exact LeG.sl h G x hx
theorem Tri.argsG {P : Program} {f : FuncId} {ds ds' : List D} {σ : St} {R : D → St → Prop} (h : Tri P f ds σ R) (hl : LeGL ds' ds) : Tri P f ds' σ R := fun base w G vs hS hA => h base w G vs hS ⟨hA.len.trans hl.len, fun k x d hx hd => by
  obtain ⟨d0, h2, h3⟩ := hl.at k d hd
  exact h3 G x (hA.rep k x d0 hx h2)⟩
end Go.Proofs.YtmjendeigjdihaaDoor
/-
  Values (chapter 1): the document's example.
-/
namespace Go.Proofs.YtmjendeigjdihaaDoor
open Go.RowKit
set_option maxRecDepth 100000
set_option linter.unusedVariables false
set_option linter.unusedSimpArgs false
attribute [local irreducible] awp aops aop aput aseq ablock TriX Tri Ret Fresh dq adraw dtail dals dfin Wk

def awL : V := .mk 4 false 0 ByteArray.empty [.mk 2 false 1152921504606846976 ByteArray.empty [] []] []
def awB : V := .mk 2 false 1 ByteArray.empty [] []
def awM : List Mem := [(⟨#[98]⟩, awB), (⟨#[97]⟩, awL)]
def awV : V := .mk 5 false 0 ByteArray.empty [] [(⟨#[97]⟩, awL), (⟨#[98]⟩, awB)]
theorem awM_sort : sortM awM = [(⟨#[97]⟩, awL), (⟨#[98]⟩, awB)] := by
  simp [sortM, awM, insM, klt, kless, Lib.toList_data, Op.bytesLess]
theorem aw_ok : V.okm awM := by
  simp [V.okm, V.oks, V.ok, awM, awL, awB, ByteArray.size]
theorem awV_ok : awV.ok := by
  simp [V.okm, V.oks, V.ok, awV, awL, awB, ByteArray.size]
theorem utf8_a : utf8B ⟨#[97]⟩ = true := by
  obtain ⟨h1, h2⟩ := utf8_step ⟨#[97]⟩ (by decide)
  have : runeB ⟨#[97]⟩ = (97, 1) := by simp [runeB, runeN, Lib.decodeN, byteAt, ByteArray.size]
  rw [this] at h1
  rw [h1]
  rfl
theorem aw_chk : awV.chkP 0 = some (.fault (-1) ⟨#[97]⟩ (.fault (-1) ⟨#[48]⟩ (.code 4))) := by
  have h0 : digB 0 = ⟨#[48]⟩ := digB_small (by decide)
  simp [awV, awL, awB, V.chkP, V.chkPL, V.chkPM, memP, utf8_a, h0]
theorem aw_told : told (awV.chkP 0) = ⟨4, -1, ⟨#[47, 97, 47, 48]⟩⟩ := by
  rw [aw_chk]
  rfl
theorem ErT.ext' {x y : ErT} (h1 : x.code = y.code) (h2 : x.at_ = y.at_) (h3 : x.path = y.path) : x = y := by
  cases x; cases y
  simp only at h1 h2 h3
  rw [h1, h2, h3]
instance : DecidableEq ErT := fun x y => decidable_of_iff (x.code = y.code ∧ x.at_ = y.at_ ∧ x.path = y.path) ⟨fun h => ErT.ext' h.1 h.2.1 h.2.2, fun h => by rw [h]; exact ⟨rfl, rfl, rfl⟩⟩
def ErT.cells (x : ErT) : List Value := [.int .i64 x.code, .int .i64 x.at_, .string x.path]
set_option maxHeartbeats 4000000 in
theorem eqE (x y : ErT) : AggEq Tryd.prog 29 x.d y.d (decide (x = y)) := by
  refine ⟨x.cells, y.cells, rfl, rfl, by kernel_rfl, fun w => ?_⟩
  rw [show (10000 : Nat) = 9999 + 1 from rfl, run_equalIn_agg w 9999 _ _ _ (by kernel_rfl) (by kernel_rfl)]
  simp only [Program.fieldsOf, Tryd.underlying29]
  unfold ErT.cells
  go_simp
  by_cases h : x = y
  · subst h
    simp
  · rw [decide_eq_false h]
    repeat' (first | rfl | split)
    exfalso
    rename_i h1 h2 h3
    have bl : ∀ {a b : ByteArray}, a.toList = b.toList → a = b := fun h => by
      rw [ByteArray.toList_eq, ByteArray.toList_eq] at h
      exact WideShapes.bytes_inj h
    exact h (ErT.ext' h1 h2 (bl h3))
theorem eqE_t (x : ErT) : AggEq Tryd.prog 29 x.d x.d true := by
  have := eqE x x
  rwa [decide_eq_true rfl] at this
theorem nilLe (sz : Nat) : LeG (.v (.slice none 0 0)) (.lst false sz []) := LeG.of (.nil _ _)
theorem v_nils (k : Int) (y : Bool) (i : Int) (t : ByteArray) : LeGL [.i k, .b y, .i i, .s t, .v (.slice none 0 0), .v (.slice none 0 0)] (V.mk k y i t [] []).d :=
  .cons (.refl _) (.cons (.refl _) (.cons (.refl _) (.cons (.refl _) (.cons (nilLe 6) (.cons (nilLe 7) .nil)))))
theorem aw_le : LeGL [.slice none true 7 [[.s ⟨#[98]⟩, .i 2, .b false, .i 1, .s ByteArray.empty, .v (.slice none 0 0), .v (.slice none 0 0)], [.s ⟨#[97]⟩, .i 4, .b false, .i 0, .s ByteArray.empty, .slice none true 6 [[.i 2, .b false, .i 1152921504606846976, .s ByteArray.empty, .v (.slice none 0 0), .v (.slice none 0 0)]], .v (.slice none 0 0)]]] [.lst false 7 (awM.map mD)] :=
  .cons (.sl (.cons (.cons (.refl _) (v_nils 2 false 1 ByteArray.empty)) (.cons (.cons (.refl _) (.cons (.refl _) (.cons (.refl _) (.cons (.refl _) (.cons (.refl _) (.cons (.sl (.cons (v_nils 2 false 1152921504606846976 ByteArray.empty) .nil)) (.cons (nilLe 7) .nil))))))) .nil))) .nil
set_option maxHeartbeats 8000000 in
theorem awakeT (σ : St) : Tri Tryd.prog 10 [] σ fun d τ => d = .b true ∧ τ = σ := by
  have MP := Lib.hid (fun σ => (membersPT awM σ (by simp [awM]) aw_ok).mono (R' := fun d τ => d = .tup [.agg awV.d, .v .nilIface] ∧ τ = σ) (by
    rintro d τ ⟨rfl, rfl⟩
    refine ⟨?_, rfl⟩
    rw [awM_sort]
    rfl))
  have CP := Lib.hid (fun σ => checkPT awV σ awV_ok)
  rw [aw_chk] at CP
  have TL := Lib.hid (fun σ => tellT (.fault (-1) ⟨#[97]⟩ (.fault (-1) ⟨#[48]⟩ (.code 4))) σ (by decide))
  have IS := Lib.hid (fun σ => isErT (.fault (-1) ⟨#[97]⟩ (.fault (-1) ⟨#[48]⟩ (.code 4))) 4 σ)
  refine tri_fn Tryd.func10 rfl Tryd.ntmps10 Tryd.results10 (Nat.le_of_ble_eq_true rfl) ?_
  have AW := Lib.hid aw_le
  have eT := Lib.hid (eqE_t ⟨4, -1, ⟨#[47, 97, 47, 48]⟩⟩)
  simp only [erD, told, Er.inner, Er.tell] at CP TL IS
  repeat (first | ((first | refine aops_cons (fun K9 hO => ?_) | (refine aops_guardT rfl ?_ (fun K9 hO => ?_); (focus (simp [*]; done)))); simp [*]; (try simp (discharger := omega) only [wrap_i64, dec_t, dec_f]); (first | ((try (first | refine .inl ⟨by omega, by omega, ?_⟩ | refine ⟨by omega, by omega, ?_⟩ | refine ⟨by omega, ?_⟩ | refine .inl ?_)); (first | (intro b; intros; refine hO.out _ _ ?_) | refine hO.out _ _ ?_)) | (refine .inr ⟨((MP.out _).argsG AW.out), ?_⟩; refine hO.out _ _ ?_) | (refine .inl ⟨((MP.out _).argsG AW.out), ?_⟩; refine hO.out _ _ ?_) | (refine ⟨_, ((MP.out _).argsG AW.out), ?_⟩; refine hO.out _ _ ?_) | (refine .inr ⟨(CP.out _), ?_⟩; refine hO.out _ _ ?_) | (refine .inl ⟨(CP.out _), ?_⟩; refine hO.out _ _ ?_) | (refine ⟨_, (CP.out _), ?_⟩; refine hO.out _ _ ?_) | (refine .inr ⟨(TL.out _), ?_⟩; refine hO.out _ _ ?_) | (refine .inl ⟨(TL.out _), ?_⟩; refine hO.out _ _ ?_) | (refine ⟨_, (TL.out _), ?_⟩; refine hO.out _ _ ?_) | (refine .inr ⟨(IS.out _), ?_⟩; refine hO.out _ _ ?_) | (refine .inl ⟨(IS.out _), ?_⟩; refine hO.out _ _ ?_) | (refine ⟨_, (IS.out _), ?_⟩; refine hO.out _ _ ?_) | (refine .inr ⟨(eT.out), ?_⟩; refine hO.out _ _ ?_) | (refine .inl ⟨(eT.out), ?_⟩; refine hO.out _ _ ?_) | (refine ⟨_, (eT.out), ?_⟩; refine hO.out _ _ ?_) | ((first | refine Tri.call ((MP.out _).argsG AW.out) ?_ | refine Tri.call (CP.out _) ?_ | refine Tri.call (TL.out _) ?_ | refine Tri.call (IS.out _) ?_ | refine Tri.call (eT.out) ?_); (first | rintro _ _ ⟨rfl, h9⟩; replace h9 := h9.symm; subst h9 | rintro _ _ ⟨_, rfl, rfl⟩ | rintro _ _ ⟨_, _, rfl, rfl⟩ | rintro _ _ ⟨_, _, _, rfl, rfl⟩); refine hO.out _ _ ?_)); clear hO; (try clear K9); (first | refine aput_some (by decide) ?_ | refine aput_none ?_)) | refine aops_nil ?_ | refine aseq_normal ?_ | refine aseq_ret ?_ | refine aseq_exit ?_ | refine ablock_normal ?_ | refine ablock_ret ?_ | refine ablock_same ?_ | refine ablock_other (by decide) ?_ | ((repeat ((fail_if_success (refine hK.out _ _ ?_)); clear hK; (try clear hP EG); (try clear KS))); refine hK.out _ _ ?_; clear hK; (try clear hP EG); try clear KS) | refine awp_seq (fun KS hK => ?_) | refine awp_region (fun KS EG hK hP => ?_) | refine awp_block ?_ | refine awp_skip ?_ | refine awp_ret ?_ | refine awp_exit ?_ | (refine awp_condT ?_ ?_; (focus (simp [*]; done))) | (refine awp_condF ?_ ?_; (focus (simp [*]; done))) | ((first | (refine aops_guardF rfl ?_ ?_; (focus (simp [*]; done))) | (refine aops_guardU rfl ?_ ?_; (focus (simp [*]; done)))); (first | refine aput_some (by decide) ?_ | refine aput_none ?_)))
  ((try simp [*]); (try simp (discharger := omega) only [wrap_i64, dec_t, dec_f]))
  exact .mk _ σ (.refl _) leT ⟨rfl, rfl⟩
theorem tellOT (o : Option Er) (σ : St) (hb : (told o).path.size ≤ 9223372036854775807) : Tri Tryd.prog 12 [erD o] σ fun d τ => d = .agg (told o).d ∧ τ = σ := by
  cases o with
  | none => exact tellNilT σ
  | some e => exact tellT e σ hb
theorem told_size (v : V) (hv : v.ok) : (told (v.chkP 0)).path.size ≤ 9223372036854775807 := by
  rw [(v.told_chk 0).1]
  have := V.chk_path v 0 (by omega) hv
  omega
end Go.Proofs.YtmjendeigjdihaaDoor
/-
  Values (chapter 1): made of the document's, and back.
-/
namespace Go.Proofs.YtmjendeigjdihaaDoor
open Go.RowKit
set_option maxRecDepth 100000
set_option linter.unusedVariables false
set_option linter.unusedSimpArgs false
attribute [local irreducible] awp aops aop aput aseq ablock TriX Tri Ret Fresh dq adraw dtail dals dfin Wk

set_option maxHeartbeats 4000000 in
theorem realT (v : V) (σ : St) (hv : v.ok) : Tri Tryd.prog 14 [.agg v.d] σ fun d τ => d = .agg v.d ∧ τ = σ := by
  obtain ⟨N, hN⟩ : ∃ N, N = v.w := ⟨_, rfl⟩
  induction N using Nat.strongRecOn generalizing v σ with
  | _ N ih =>
    obtain ⟨kd, y, i, t, l, m⟩ := v
    subst hN
    rw [V.w] at ih
    rw [V.ok] at hv
    obtain ⟨ht, hl, hm, hls, hms⟩ := hv
    have IL := Lib.hid (fun (x : V) (hx : x ∈ l) (σ : St) => ih x.w (by have := V.ws_mem hx; omega) x σ (V.oks_mem hls hx) rfl)
    have IM := Lib.hid (fun (x : ByteArray × V) (hx : x ∈ m) (σ : St) => ih x.2.w (by have := V.wm_mem hx; omega) x.2 σ (V.okm_mem hms hx).2 rfl)
    clear ih hls hms
    rw [V.d, V.ds_map, V.dm_map]
    refine tri_fn Tryd.func14 rfl Tryd.ntmps14 Tryd.results14 (Nat.le_of_ble_eq_true rfl) ?_
    refine' wlk0
    refine' genI2S
    refine awp_loopM [5, 20, 21, 22, 23, 24, 25, 26, 27, 28, 29, 30, 31] (fun X τ => ∃ (k : Nat) (dl : D) (τ0 : St), k ≤ l.length ∧ X 20 = .i k ∧ Grow σ1 bo 38 6 ((l.map V.d).take k) dl τ0 ∧ τ = τ0.set bo (some (.box 38 [.i kd, .b y, .i i, .s t, dl, .v (.slice none 0 0)]))) (fun X _ => l.length - (X 20).int.toNat) ?_ ?_
    · refine .same ⟨mix_self _ _, 0, _, _, by omega, ?_, Grow.start _ _ _ _, rfl⟩
      simp [*]
    · rintro X τ ⟨k, dl, τ0, hk, h20, hg, rfl⟩ _ hL
      by_cases hlt : k < l.length
      · have IH := Lib.hid (IL.out l[k] (List.getElem_mem hlt))
        rcases hg.cases_take hlt with ⟨rfl, rfl, rfl⟩ | ⟨bt, cap, g1, g3, g4, g2, rfl, rfl⟩
        · refine' wlk1 IH.out
          (refine awp_draw (fun KS EG hK hP => ?_); refine draw_rule rfl [(0, true), (1, false), (2, false), (3, false), (4, true), (6, true)] [] [5, 7] (by kernel_rfl) ?_; refine' dqs1 IH.out)
          refine' wlk0
          refine hL.out _ _ (.less ((τ0.set b (some (.tip 38 6 _ 1))).set bo _) leT (.same ⟨mixT, ⟨1, _, _, by omega, ?_, Grow.take0 hlt b _ (by assumption) (by assumption), rfl⟩, ?_⟩))
          · simp [*]
          · simp [*, D.int]; omega
        · clear hg
          have hmin : min k l.length = k := by omega
          refine' wlk1 IH.out
          (refine awp_draw (fun KS EG hK hP => ?_); refine draw_rule rfl [(0, true), (1, false), (2, false), (3, false), (4, true), (6, true)] [] [5, 7] (by kernel_rfl) ?_; refine' dqs1 IH.out)
          refine' wlk0
          refine hL.out _ _ (.less ((σ1.set b (some (.tip 38 6 _ (k + 1)))).set bo _) leT (.same ⟨mixT, ⟨k + 1, _, _, by omega, ?_, Grow.take hlt b _ (by assumption) (by assumption), rfl⟩, ?_⟩))
          · simp [*]
          · simp [*, D.int]; omega
      · have hke : k = l.length := by omega
        replace hg := hg.done hke
        rw [hke] at h20
        clear hke hk hlt
        have hown1' := hg.le.2 _ _ hown1
        have hfr0 := hg.fresh hfr1
        have HL1 := Lib.hid hg.le
        have hown2' := hg.le.2 _ _ hown2
        clear hg hown1 hown2
        refine' wlk0
        clear hL
        refine awp_loopM [7, 35, 36, 37, 38, 39, 40, 41, 42, 43, 44, 45, 46, 47, 48, 49, 50] (fun X τ => ∃ (k : Nat) (dm : D) (τ2 : St), k ≤ m.length ∧ X 35 = .i k ∧ Grow τ0 bo 45 7 ((m.map fun x => .s x.1 :: x.2.d).take k) dm τ2 ∧ τ = τ2.set bo (some (.box 38 [.i kd, .b y, .i i, .s t, dl, dm]))) (fun X _ => m.length - (X 35).int.toNat) ?_ ?_
        · refine .same ⟨mix_self _ _, 0, _, _, by omega, ?_, Grow.start _ _ _ _, rfl⟩
          simp [*]
        · rintro X τ ⟨k, dm, τ2, hk, h35, hg, rfl⟩ _ hL
          by_cases hlt : k < m.length
          · have IH := Lib.hid (IM.out m[k] (List.getElem_mem hlt))
            rcases hg.cases_take hlt with ⟨rfl, rfl, rfl⟩ | ⟨bt, cap, g1, g3, g4, g2, rfl, rfl⟩
            · clear hg
              refine' wlk1 IH.out
              (refine awp_draw (fun KS EG hK hP => ?_); refine draw_rule rfl [(0, true), (1, false), (2, true), (3, false), (4, true), (5, false), (6, false), (7, true), (8, true), (10, true)] [] [9, 11] (by kernel_rfl) ?_; refine' dqs1 IH.out)
              refine' wlk0
              refine hL.out _ _ (.less ((τ2.set b (some (.tip 45 7 _ 1))).set bo _) leT (.same ⟨mixT, ⟨1, _, _, by omega, ?_, Grow.take0 hlt b _ (by assumption) (by assumption), rfl⟩, ?_⟩))
              · simp [*]
              · simp [*, D.int]; omega
            · clear hg
              have hmin : min k m.length = k := by omega
              refine' wlk1 IH.out
              (refine awp_draw (fun KS EG hK hP => ?_); refine draw_rule rfl [(0, true), (1, false), (2, true), (3, false), (4, true), (5, false), (6, false), (7, true), (8, true), (10, true)] [] [9, 11] (by kernel_rfl) ?_; refine' dqs1 IH.out)
              refine' wlk0
              refine hL.out _ _ (.less ((τ0.set b (some (.tip 45 7 _ (k + 1)))).set bo _) leT (.same ⟨mixT, ⟨k + 1, _, _, by omega, ?_, Grow.take hlt b _ (by assumption) (by assumption), rfl⟩, ?_⟩))
              · simp [*]
              · simp [*, D.int]; omega
          · have hke : k = m.length := by omega
            replace hg := hg.done hke
            rw [hke] at h35
            clear hke hk hlt
            have hfr2 := hg.fresh hfr0
            have HL2 := Lib.hid hg.le
            have hown3 := hg.le.2 _ _ hown2'
            have HLL := Lib.hid (St.le_trans HLE.out (St.le_trans HL1.out.2 HL2.out.2))
            clear hg
            refine' wlk0
            ((try simp [*]); (try simp (discharger := omega) only [wrap_i64, dec_t, dec_f]))
            exact .mk _ σ (.aggL (.cons (.refl _) (.cons (.refl _) (.cons (.refl _) (.cons (.refl _) (.cons HL1.out.1 (.cons HL2.out.1 .nil))))))) leT ⟨rfl, rfl⟩
end Go.Proofs.YtmjendeigjdihaaDoor
/-
  Values (chapter 1): are two the same; the program's.
-/
namespace Go.Proofs.YtmjendeigjdihaaDoor
open Go.RowKit
set_option maxRecDepth 100000
set_option linter.unusedVariables false
set_option linter.unusedSimpArgs false
attribute [local irreducible] awp aops aop aput aseq ablock TriX Tri Ret Fresh dq adraw dtail dals dfin Wk

mutual
/-- Are two the same? -/
def V.same : V → V → Bool
  | .mk k y i t l m, .mk k' y' i' t' l' m' =>
    if k ≠ k' then false
    else if k = 1 then y == y'
    else if k = 2 then decide (i = i')
    else if k = 3 then decide (t = t')
    else if k = 4 then V.sameL l l'
    else if k = 5 then V.sameM m m'
    else true
def V.sameL : List V → List V → Bool
  | [], [] => true
  | x :: l, x' :: l' => x.same x' && V.sameL l l'
  | _, _ => false
def V.sameM : List (ByteArray × V) → List (ByteArray × V) → Bool
  | [], [] => true
  | (a, x) :: l, (a', x') :: l' => decide (a = a') && x.same x' && V.sameM l l'
  | _, _ => false
end
theorem V.sameL_len : ∀ {l l' : List V}, ¬ l.length = l'.length → V.sameL l l' = false
  | [], [], h => by simp at h
  | [], _ :: _, _ => rfl
  | _ :: _, [], _ => rfl
  | x :: l, x' :: l', h => by rw [V.sameL, V.sameL_len (by simpa using h), Bool.and_false]
theorem V.sameM_len : ∀ {l l' : List (ByteArray × V)}, ¬ l.length = l'.length → V.sameM l l' = false
  | [], [], h => by simp at h
  | [], _ :: _, _ => rfl
  | _ :: _, [], _ => rfl
  | (a, x) :: l, (a', x') :: l', h => by rw [V.sameM, V.sameM_len (by simpa using h), Bool.and_false]
theorem V.sameL_drop {l l' : List V} {k : Nat} (h : k < l.length) (h' : k < l'.length) : V.sameL (l.drop k) (l'.drop k) = (l[k].same l'[k] && V.sameL (l.drop (k + 1)) (l'.drop (k + 1))) := by
  rw [List.drop_eq_getElem_cons h, List.drop_eq_getElem_cons h', V.sameL]
theorem V.sameM_drop {l l' : List (ByteArray × V)} {k : Nat} (h : k < l.length) (h' : k < l'.length) : V.sameM (l.drop k) (l'.drop k) = (decide (l[k].1 = l'[k].1) && l[k].2.same l'[k].2 && V.sameM (l.drop (k + 1)) (l'.drop (k + 1))) := by
  rw [List.drop_eq_getElem_cons h, List.drop_eq_getElem_cons h', V.sameM]
def ks {α : Type} (f : α → List D) (l : List α) : List (List D) := l.map f

set_option maxHeartbeats 4000000 in
theorem eqfVT {α : Type} (g : α → List D) (hg : ∀ x, (g x).length = 6) (f : FuncId) (l l' : List α) (r : α → α → Bool) (R : List α → List α → Bool) (hf : FnOk Tryd.prog f) (hl : l.length * 88 ≤ 140737488355328) (hl' : l'.length * 88 ≤ 140737488355328)
    (hR0 : R [] [] = true) (hR1 : ∀ k (h : k < l.length) (h' : k < l'.length), R (l.drop k) (l'.drop k) = (r l[k] l'[k] && R (l.drop (k + 1)) (l'.drop (k + 1)))) (hR2 : ¬ l.length = l'.length → R l l' = false)
    (H : Hid (∀ x ∈ l, ∀ x' ∈ l', ∀ σ, Tri Tryd.prog f [.agg (g x), .agg (g x')] σ fun d τ => d = .b (r x x') ∧ τ = σ)) (σ : St) :
    Tri Tryd.prog 49 [.lst false 6 (l.map g), .lst false 6 (l'.map g), .fn (.func f) [] []] σ fun d τ => d = .b (R l l') ∧ τ = σ := by
  have HF := Lib.hid hf
  have G0 := Lib.hid hR0
  have G1 := Lib.hid hR1
  have G2 := Lib.hid hR2
  clear hR0 hR1 hR2
  have htk : ∀ x, (g x).take 6 = g x := fun x => List.take_of_length_le (by rw [hg]; omega)
  refine tri_fn Tryd.func49 rfl Tryd.ntmps49 Tryd.results49 (Nat.le_of_ble_eq_true rfl) ?_
  by_cases hlen : l.length = l'.length
  · refine' wlk0
    refine awp_loopM [6, 7, 8, 9, 17, 18, 19, 20, 21, 22, 23, 24, 25, 26, 27, 28, 29, 30, 31] (fun X τ => ∃ k : Nat, k ≤ l.length ∧ X 17 = .i k ∧ R l l' = R (l.drop k) (l'.drop k) ∧ τ = σ) (fun X _ => l.length - (X 17).int.toNat) ?_ ?_
    · refine .same ⟨mix_self _ _, 0, by omega, ?_, by rw [List.drop_zero, List.drop_zero], rfl⟩
      simp [*]
    · rintro X τ ⟨k, hk, h17, he, rfl⟩ _ hL
      have HE := Lib.hid he
      clear he
      by_cases hlt : k < l.length
      · have hlt' : k < l'.length := by omega
        have hst := Lib.hid (G1.out k hlt hlt')
        have IH := Lib.hid (H.out l[k] (List.getElem_mem hlt) l'[k] (List.getElem_mem hlt'))
        cases hr : r l[k] l'[k] with
        | true =>
          rw [hr] at IH hst
          clear hr
          refine' wlk1 IH.out
          refine hL.out _ _ (.less τ leT (.same ⟨mixT, ⟨k + 1, by omega, ?_, ?_, rfl⟩, ?_⟩))
          · simp [*]
          · rw [HE.out, hst.out, Bool.true_and]
          · simp [*, D.int]; omega
        | false =>
          rw [hr] at IH hst
          clear hr
          refine' wlk1 IH.out
          ((try simp [*]); (try simp (discharger := omega) only [wrap_i64, dec_t, dec_f]))
          exact .mk _ τ (.refl _) leT ⟨by rw [HE.out, hst.out, Bool.false_and], rfl⟩
      · have hke : k = l.length := by omega
        have HK := Lib.hid hke
        have hlt2 : ¬ (k : Int) < l'.length := by omega
        clear hke
        refine' wlk0
        ((try simp [*]); (try simp (discharger := omega) only [wrap_i64, dec_t, dec_f]))
        exact .mk _ τ (.refl _) leT ⟨by rw [HE.out, List.drop_eq_nil_of_le (by have := HK.out; omega), List.drop_eq_nil_of_le (by have := HK.out; omega), G0.out], rfl⟩
  · refine' wlk0
    ((try simp [*]); (try simp (discharger := omega) only [wrap_i64, dec_t, dec_f]))
    exact .mk _ σ (.refl _) leT ⟨by rw [G2.out hlen], rfl⟩
set_option maxHeartbeats 4000000 in
theorem eqfMT {α : Type} (g : α → List D) (hg : ∀ x, (g x).length = 7) (f : FuncId) (l l' : List α) (r : α → α → Bool) (R : List α → List α → Bool) (hf : FnOk Tryd.prog f) (hl : l.length * 88 ≤ 140737488355328) (hl' : l'.length * 88 ≤ 140737488355328)
    (hR0 : R [] [] = true) (hR1 : ∀ k (h : k < l.length) (h' : k < l'.length), R (l.drop k) (l'.drop k) = (r l[k] l'[k] && R (l.drop (k + 1)) (l'.drop (k + 1)))) (hR2 : ¬ l.length = l'.length → R l l' = false)
    (H : Hid (∀ x ∈ l, ∀ x' ∈ l', ∀ σ, Tri Tryd.prog f [.agg (g x), .agg (g x')] σ fun d τ => d = .b (r x x') ∧ τ = σ)) (σ : St) :
    Tri Tryd.prog 50 [.lst false 7 (l.map g), .lst false 7 (l'.map g), .fn (.func f) [] []] σ fun d τ => d = .b (R l l') ∧ τ = σ := by
  have HF := Lib.hid hf
  have G0 := Lib.hid hR0
  have G1 := Lib.hid hR1
  have G2 := Lib.hid hR2
  clear hR0 hR1 hR2
  have htk : ∀ x, (g x).take 7 = g x := fun x => List.take_of_length_le (by rw [hg]; omega)
  refine tri_fn Tryd.func50 rfl Tryd.ntmps50 Tryd.results50 (Nat.le_of_ble_eq_true rfl) ?_
  by_cases hlen : l.length = l'.length
  · refine' wlk0
    refine awp_loopM [6, 7, 8, 9, 17, 18, 19, 20, 21, 22, 23, 24, 25, 26, 27, 28, 29, 30, 31] (fun X τ => ∃ k : Nat, k ≤ l.length ∧ X 17 = .i k ∧ R l l' = R (l.drop k) (l'.drop k) ∧ τ = σ) (fun X _ => l.length - (X 17).int.toNat) ?_ ?_
    · refine .same ⟨mix_self _ _, 0, by omega, ?_, by rw [List.drop_zero, List.drop_zero], rfl⟩
      simp [*]
    · rintro X τ ⟨k, hk, h17, he, rfl⟩ _ hL
      have HE := Lib.hid he
      clear he
      by_cases hlt : k < l.length
      · have hlt' : k < l'.length := by omega
        have hst := Lib.hid (G1.out k hlt hlt')
        have IH := Lib.hid (H.out l[k] (List.getElem_mem hlt) l'[k] (List.getElem_mem hlt'))
        cases hr : r l[k] l'[k] with
        | true =>
          rw [hr] at IH hst
          clear hr
          refine' wlk1 IH.out
          refine hL.out _ _ (.less τ leT (.same ⟨mixT, ⟨k + 1, by omega, ?_, ?_, rfl⟩, ?_⟩))
          · simp [*]
          · rw [HE.out, hst.out, Bool.true_and]
          · simp [*, D.int]; omega
        | false =>
          rw [hr] at IH hst
          clear hr
          refine' wlk1 IH.out
          ((try simp [*]); (try simp (discharger := omega) only [wrap_i64, dec_t, dec_f]))
          exact .mk _ τ (.refl _) leT ⟨by rw [HE.out, hst.out, Bool.false_and], rfl⟩
      · have hke : k = l.length := by omega
        have HK := Lib.hid hke
        have hlt2 : ¬ (k : Int) < l'.length := by omega
        clear hke
        refine' wlk0
        ((try simp [*]); (try simp (discharger := omega) only [wrap_i64, dec_t, dec_f]))
        exact .mk _ τ (.refl _) leT ⟨by rw [HE.out, List.drop_eq_nil_of_le (by have := HK.out; omega), List.drop_eq_nil_of_le (by have := HK.out; omega), G0.out], rfl⟩
  · refine' wlk0
    ((try simp [*]); (try simp (discharger := omega) only [wrap_i64, dec_t, dec_f]))
    exact .mk _ σ (.refl _) leT ⟨by rw [G2.out hlen], rfl⟩
set_option maxHeartbeats 4000000 in
theorem same1T (a a' : ByteArray) (v v' : V) (r : Bool) (σ : St) (H : Hid (∀ σ, Tri Tryd.prog 28 [.agg v.d, .agg v'.d] σ fun d τ => d = .b r ∧ τ = σ)) :
    Tri Tryd.prog 51 [.agg (.s a :: v.d), .agg (.s a' :: v'.d)] σ fun d τ => d = .b (decide (a = a') && r) ∧ τ = σ := by
  refine tri_fn Tryd.func51 rfl Tryd.ntmps51 Tryd.results51 (Nat.le_of_ble_eq_true rfl) ?_
  by_cases ha : a = a'
  · subst ha
    refine' wlk1 H.out
    ((try simp [*]); (try simp (discharger := omega) only [wrap_i64, dec_t, dec_f]))
    exact .mk _ σ (.refl _) leT ⟨by simp, rfl⟩
  · refine' wlk1 H.out
    ((try simp [*]); (try simp (discharger := omega) only [wrap_i64, dec_t, dec_f]))
    exact .mk _ σ (.refl _) leT ⟨by simp [ha], rfl⟩
set_option maxHeartbeats 4000000 in
theorem samePT (v v' : V) (σ : St) (hv : v.ok) (hv' : v'.ok) : Tri Tryd.prog 28 [.agg v.d, .agg v'.d] σ fun d τ => d = .b (v.same v') ∧ τ = σ := by
  obtain ⟨N, hN⟩ : ∃ N, N = v.w := ⟨_, rfl⟩
  induction N using Nat.strongRecOn generalizing v v' σ with
  | _ N ih =>
    obtain ⟨k, y, i, t, l, m⟩ := v
    obtain ⟨k', y', i', t', l', m'⟩ := v'
    subst hN
    rw [V.w] at ih
    rw [V.ok] at hv hv'
    obtain ⟨ht, hl, hm, hls, hms⟩ := hv
    obtain ⟨ht', hl', hm', hls', hms'⟩ := hv'
    have HRES := Lib.hid (V.same.eq_1 k y i t l m k' y' i' t' l' m')
    have EL := Lib.hid (fun σ => eqfVT V.d (fun x => V.d_len x) 28 l l' V.same V.sameL (by simp) (by omega) (by omega) rfl (fun k h h' => V.sameL_drop h h') V.sameL_len
      (Lib.hid fun x hx x' hx' σ => ih x.w (by have := V.ws_mem hx; omega) x x' σ (V.oks_mem hls hx) (V.oks_mem hls' hx') rfl) σ)
    have EM := Lib.hid (fun σ => eqfMT (fun x : ByteArray × V => .s x.1 :: x.2.d) (fun x => by simp) 51 m m' (fun x x' => decide (x.1 = x'.1) && x.2.same x'.2) V.sameM (by simp) (by omega) (by omega) rfl (fun k h h' => V.sameM_drop h h') V.sameM_len
      (Lib.hid fun x hx x' hx' σ => same1T x.1 x'.1 x.2 x'.2 _ σ (Lib.hid fun σ => ih x.2.w (by have := V.wm_mem hx; omega) x.2 x'.2 σ (V.okm_mem hms hx).2 (V.okm_mem hms' hx').2 rfl)) σ)
    clear ih hls hms hls' hms'
    rw [V.d, V.d, V.ds_map, V.dm_map, V.ds_map, V.dm_map]
    refine tri_fn Tryd.func28 rfl Tryd.ntmps28 Tryd.results28 (Nat.le_of_ble_eq_true rfl) ?_
    by_cases hk : k = k'
    · subst hk
      have e0 : ¬ (k ≠ k) := by simp
      replace HRES := Lib.hid (HRES.out.trans (if_neg e0))
      clear e0
      by_cases h1 : k = 1
      · subst h1
        refine' wlk0
        ((try simp [*]); (try simp (discharger := omega) only [wrap_i64, dec_t, dec_f]))
        exact .mk _ σ (.refl _) leT ⟨by rw [HRES.out, if_pos rfl], rfl⟩
      by_cases h2 : k = 2
      · subst h2
        refine' wlk0
        ((try simp [*]); (try simp (discharger := omega) only [wrap_i64, dec_t, dec_f]))
        exact .mk _ σ (.refl _) leT ⟨by rw [HRES.out, if_neg (by decide), if_pos rfl], rfl⟩
      by_cases h3 : k = 3
      · subst h3
        refine' wlk0
        ((try simp [*]); (try simp (discharger := omega) only [wrap_i64, dec_t, dec_f]))
        exact .mk _ σ (.refl _) leT ⟨by rw [HRES.out, if_neg (by decide), if_neg (by decide), if_pos rfl], rfl⟩
      by_cases h4 : k = 4
      · subst h4
        refine' wlk1 EL.out
        ((try simp [*]); (try simp (discharger := omega) only [wrap_i64, dec_t, dec_f]))
        exact .mk _ σ (.refl _) leT ⟨by rw [HRES.out, if_neg (by decide), if_neg (by decide), if_neg (by decide), if_pos rfl], rfl⟩
      by_cases h5 : k = 5
      · subst h5
        refine' wlk1 EM.out
        ((try simp [*]); (try simp (discharger := omega) only [wrap_i64, dec_t, dec_f]))
        exact .mk _ σ (.refl _) leT ⟨by rw [HRES.out, if_neg (by decide), if_neg (by decide), if_neg (by decide), if_neg (by decide), if_pos rfl], rfl⟩
      refine' wlk0
      ((try simp [*]); (try simp (discharger := omega) only [wrap_i64, dec_t, dec_f]))
      exact .mk _ σ (.refl _) leT ⟨by rw [HRES.out, if_neg h1, if_neg h2, if_neg h3, if_neg h4, if_neg h5], rfl⟩
    · refine' wlk0
      ((try simp [*]); (try simp (discharger := omega) only [wrap_i64, dec_t, dec_f]))
      exact .mk _ σ (.refl _) leT ⟨by rw [HRES.out, if_pos hk], rfl⟩
end Go.Proofs.YtmjendeigjdihaaDoor
/-
  Values (chapter 1): are two the same; the document's.
-/
namespace Go.Proofs.YtmjendeigjdihaaDoor
open Go.RowKit
set_option maxRecDepth 100000
set_option linter.unusedVariables false
set_option linter.unusedSimpArgs false
attribute [local irreducible] awp aops aop aput aseq ablock TriX Tri Ret Fresh dq adraw dtail dals dfin Wk

set_option maxHeartbeats 8000000 in
theorem sameRT (v v' : V) (σ : St) (hv : v.ok) (hv' : v'.ok) : Tri Tryd.prog 29 [.agg v.d, .agg v'.d] σ fun d τ => d = .b (v.same v') ∧ τ = σ := by
  obtain ⟨N, hN⟩ : ∃ N, N = v.w := ⟨_, rfl⟩
  induction N using Nat.strongRecOn generalizing v v' σ with
  | _ N ih =>
    obtain ⟨k, y, i, t, l, m⟩ := v
    obtain ⟨k', y', i', t', l', m'⟩ := v'
    subst hN
    rw [V.w] at ih
    rw [V.ok] at hv hv'
    obtain ⟨ht, hl, hm, hls, hms⟩ := hv
    obtain ⟨ht', hl', hm', hls', hms'⟩ := hv'
    have HRES := Lib.hid (V.same.eq_1 k y i t l m k' y' i' t' l' m')
    have IL := Lib.hid (fun (x : V) (hx : x ∈ l) (x' : V) (hx' : x' ∈ l') (σ : St) => ih x.w (by have := V.ws_mem hx; omega) x x' σ (V.oks_mem hls hx) (V.oks_mem hls' hx') rfl)
    have IM := Lib.hid (fun (x : ByteArray × V) (hx : x ∈ m) (x' : ByteArray × V) (hx' : x' ∈ m') (σ : St) => ih x.2.w (by have := V.wm_mem hx; omega) x.2 x'.2 σ (V.okm_mem hms hx).2 (V.okm_mem hms' hx').2 rfl)
    clear ih hls hms hls' hms'
    rw [V.d, V.d, V.ds_map, V.dm_map, V.ds_map, V.dm_map]
    refine tri_fn Tryd.func29 rfl Tryd.ntmps29 Tryd.results29 (Nat.le_of_ble_eq_true rfl) ?_
    by_cases hk : k = k'
    · subst hk
      have e0 : ¬ (k ≠ k) := by simp
      replace HRES := Lib.hid (HRES.out.trans (if_neg e0))
      clear e0
      by_cases h1 : k = 1
      · subst h1
        refine' wlk0
        ((try simp [*]); (try simp (discharger := omega) only [wrap_i64, dec_t, dec_f]))
        exact .mk _ σ (.refl _) leT ⟨by rw [HRES.out, if_pos rfl], rfl⟩
      by_cases h2 : k = 2
      · subst h2
        refine' wlk0
        ((try simp [*]); (try simp (discharger := omega) only [wrap_i64, dec_t, dec_f]))
        exact .mk _ σ (.refl _) leT ⟨by rw [HRES.out, if_neg (by decide), if_pos rfl], rfl⟩
      by_cases h3 : k = 3
      · subst h3
        refine' wlk0
        ((try simp [*]); (try simp (discharger := omega) only [wrap_i64, dec_t, dec_f]))
        exact .mk _ σ (.refl _) leT ⟨by rw [HRES.out, if_neg (by decide), if_neg (by decide), if_pos rfl], rfl⟩
      by_cases h4 : k = 4
      · subst h4
        replace HRES := Lib.hid (show (V.mk 4 y i t l m).same (V.mk 4 y' i' t' l' m') = V.sameL l l' by rw [HRES.out, if_neg (by decide), if_neg (by decide), if_neg (by decide), if_pos rfl])
        by_cases hlen : l.length = l'.length
        · refine' wlk0
          refine' gen2S
          refine awp_loopM [4, 5, 47, 48, 49, 50, 51, 52, 53, 54, 55, 56, 57, 58, 59, 60, 61, 62] (fun X τ => ∃ k : Nat, k ≤ l.length ∧ X 47 = .i k ∧ V.sameL l l' = V.sameL (l.drop k) (l'.drop k) ∧ τ = σ1) (fun X _ => l.length - (X 47).int.toNat) ?_ ?_
          · refine .same ⟨mix_self _ _, 0, by omega, ?_, by rw [List.drop_zero, List.drop_zero], rfl⟩
            simp [*]
          · rintro X τ ⟨k, hk, h47, he, rfl⟩ _ hL
            have HE := Lib.hid he
            clear he
            by_cases hlt : k < l.length
            · have hlt' : k < l'.length := by omega
              have hst := Lib.hid (V.sameL_drop hlt hlt')
              have IH := Lib.hid (IL.out l[k] (List.getElem_mem hlt) l'[k] (List.getElem_mem hlt'))
              cases hr : l[k].same l'[k] with
              | true =>
                rw [hr] at IH hst
                clear hr
                refine' wlk1 IH.out
                (refine awp_draw (fun KS EG hK hP => ?_); refine draw_rule rfl [(0, true), (1, false), (2, true), (3, true), (4, false), (5, true), (6, false), (7, true), (8, true), (9, false), (10, false), (11, true)] [] [] (by kernel_rfl) ?_; refine' dqs1 IH.out)
                refine' wlk0
                refine hL.out _ _ (.less τ leT (.same ⟨mixT, ⟨k + 1, by omega, ?_, ?_, rfl⟩, ?_⟩))
                · simp [*]
                · rw [HE.out, hst.out, Bool.true_and]
                · simp [*, D.int]; omega
              | false =>
                rw [hr] at IH hst
                clear hr
                refine' wlk1 IH.out
                (refine awp_draw (fun KS EG hK hP => ?_); refine draw_rule rfl [(0, true), (1, false), (2, true), (3, true), (4, false), (5, true), (6, false), (7, true), (8, true), (9, false), (10, false), (11, true)] [] [] (by kernel_rfl) ?_; refine' dqs1 IH.out)
                refine' wlk0
                ((try simp [*]); (try simp (discharger := omega) only [wrap_i64, dec_t, dec_f]))
                exact .mk _ σ (.refl _) leT ⟨by rw [HRES.out, HE.out, hst.out, Bool.false_and], rfl⟩
            · have HK := Lib.hid (show k = l.length by omega)
              have hlt2 : ¬ (k : Int) < l'.length := by omega
              refine' wlk0
              ((try simp [*]); (try simp (discharger := omega) only [wrap_i64, dec_t, dec_f]))
              exact .mk _ σ (.refl _) leT ⟨by rw [HRES.out, HE.out, List.drop_eq_nil_of_le (by have := HK.out; omega), List.drop_eq_nil_of_le (by have := HK.out; omega)]; rfl, rfl⟩
        · refine' wlk0
          ((try simp [*]); (try simp (discharger := omega) only [wrap_i64, dec_t, dec_f]))
          exact .mk _ σ (.refl _) leT ⟨by rw [HRES.out, V.sameL_len hlen], rfl⟩
      by_cases h5 : k = 5
      · subst h5
        replace HRES := Lib.hid (show (V.mk 5 y i t l m).same (V.mk 5 y' i' t' l' m') = V.sameM m m' by rw [HRES.out, if_neg (by decide), if_neg (by decide), if_neg (by decide), if_neg (by decide), if_pos rfl])
        by_cases hlen : m.length = m'.length
        · refine' wlk0
          refine' gen2S
          refine awp_loopM [4, 6, 75, 76, 77, 78, 79, 80, 81, 82, 83, 84, 85, 86, 87, 88, 89, 90, 91, 92, 93, 94, 95, 96, 97, 98, 99, 100, 101, 102, 103, 104, 105, 106, 107] (fun X τ => ∃ k : Nat, k ≤ m.length ∧ X 75 = .i k ∧ V.sameM m m' = V.sameM (m.drop k) (m'.drop k) ∧ τ = σ1) (fun X _ => m.length - (X 75).int.toNat) ?_ ?_
          · refine .same ⟨mix_self _ _, 0, by omega, ?_, by rw [List.drop_zero, List.drop_zero], rfl⟩
            simp [*]
          · rintro X τ ⟨k, hk, h47, he, rfl⟩ _ hL
            have HE := Lib.hid he
            clear he
            by_cases hlt : k < m.length
            · have hlt' : k < m'.length := by omega
              have hst := Lib.hid (V.sameM_drop hlt hlt')
              have IH := Lib.hid (IM.out m[k] (List.getElem_mem hlt) m'[k] (List.getElem_mem hlt'))
              by_cases hq : m[k].1 = m'[k].1
              · cases hr : m[k].2.same m'[k].2 with
                | true =>
                  rw [hr] at IH hst
                  clear hr
                  refine' wlk1 IH.out
                  (refine awp_draw (fun KS EG hK hP => ?_); refine draw_rule rfl [(0, true), (1, false), (2, true), (3, true), (4, true), (5, false), (6, true), (7, false), (8, true), (9, true), (10, true), (11, false), (12, true), (13, true), (14, true), (15, false), (16, true), (17, true), (18, true), (19, false), (20, true), (21, false), (22, true), (23, true), (24, true), (25, false), (26, false), (27, true), (28, true)] [] [] (by kernel_rfl) ?_; refine' dqs1 IH.out)
                  refine' wlk0
                  refine hL.out _ _ (.less τ leT (.same ⟨mixT, ⟨k + 1, by omega, ?_, ?_, rfl⟩, ?_⟩))
                  · simp [*]
                  · rw [HE.out, hst.out, decide_eq_true hq, Bool.true_and, Bool.true_and]
                  · simp [*, D.int]; omega
                | false =>
                  rw [hr] at IH hst
                  clear hr
                  refine' wlk1 IH.out
                  (refine awp_draw (fun KS EG hK hP => ?_); refine draw_rule rfl [(0, true), (1, false), (2, true), (3, true), (4, true), (5, false), (6, true), (7, false), (8, true), (9, true), (10, true), (11, false), (12, true), (13, true), (14, true), (15, false), (16, true), (17, true), (18, true), (19, false), (20, true), (21, false), (22, true), (23, true), (24, true), (25, false), (26, false), (27, true), (28, true)] [] [] (by kernel_rfl) ?_; refine' dqs1 IH.out)
                  refine' wlk0
                  ((try simp [*]); (try simp (discharger := omega) only [wrap_i64, dec_t, dec_f]))
                  exact .mk _ σ (.refl _) leT ⟨by rw [HRES.out, HE.out, hst.out, Bool.and_false, Bool.false_and], rfl⟩
              · refine' wlk1 IH.out
                (refine awp_draw (fun KS EG hK hP => ?_); refine draw_rule rfl [(0, true), (1, false), (2, true), (3, true), (4, true), (5, false), (6, true), (7, false), (8, true), (9, true), (10, true), (11, false), (12, true), (13, true), (14, true), (15, false), (16, true), (17, true), (18, true), (19, false), (20, true), (21, false), (22, true), (23, true), (24, true), (25, false), (26, false), (27, true), (28, true)] [] [] (by kernel_rfl) ?_; refine' dqs1 IH.out)
                refine' wlk0
                ((try simp [*]); (try simp (discharger := omega) only [wrap_i64, dec_t, dec_f]))
                exact .mk _ σ (.refl _) leT ⟨by rw [HRES.out, HE.out, hst.out, decide_eq_false hq, Bool.false_and, Bool.false_and], rfl⟩
            · have HK := Lib.hid (show k = m.length by omega)
              have hlt2 : ¬ (k : Int) < m'.length := by omega
              refine' wlk0
              ((try simp [*]); (try simp (discharger := omega) only [wrap_i64, dec_t, dec_f]))
              exact .mk _ σ (.refl _) leT ⟨by rw [HRES.out, HE.out, List.drop_eq_nil_of_le (by have := HK.out; omega), List.drop_eq_nil_of_le (by have := HK.out; omega)]; rfl, rfl⟩
        · refine' wlk0
          ((try simp [*]); (try simp (discharger := omega) only [wrap_i64, dec_t, dec_f]))
          exact .mk _ σ (.refl _) leT ⟨by rw [HRES.out, V.sameM_len hlen], rfl⟩
      refine' wlk0
      ((try simp [*]); (try simp (discharger := omega) only [wrap_i64, dec_t, dec_f]))
      exact .mk _ σ (.refl _) leT ⟨by rw [HRES.out, if_neg h1, if_neg h2, if_neg h3, if_neg h4, if_neg h5], rfl⟩
    · refine' wlk0
      ((try simp [*]); (try simp (discharger := omega) only [wrap_i64, dec_t, dec_f]))
      exact .mk _ σ (.refl _) leT ⟨by rw [HRES.out, if_pos hk], rfl⟩
end Go.Proofs.YtmjendeigjdihaaDoor
