/- The statement RingWhole: for each input the law answers true, and its arguments read as before. No condition. -/
import Derived.Test.YtkkionmmkmhlpaaRows
import Derived.Test.YtkkionmmkmhlpaaVmRGY
import Derived.WalkKit
import Derived.ProofKit
import Derived.OpenShut
import Derived.ShutString
import Derived.ChangeOld
import Derived.Below
import Derived.SizedLaws
import Derived.Carry
namespace Go.Proofs.Ytkkionmmkmhlpaa.ringWhole
open Go.ChangeShapes Go.WideShapes Go.ChangeAt Go.RowKit
set_option linter.unusedVariables false

theorem own : ownKnob Try.prog.godebug = none := by kernel_rfl
theorem laidOut : laidOutB Try.prog = true := by kernel_rfl
def T3 : Vm.Ty := (.int .i64)
theorem tyOk3 : Vm.tyOk Try.prog T3 3 = true := by kernel_rfl
def T9 : Vm.Ty := .str
theorem tyOk9 : Vm.tyOk Try.prog T9 9 = true := by kernel_rfl

theorem walk (w : World) {u0 : Value} {c0 : List Vm.V} (h0 : T3.Has c0) (r0 : Vm.VR (Vm.topG w) u0 (T3.el c0)) {u1 : Value} {c1 : List Vm.V} (h1 : T9.Has c1) (r1 : Vm.VR (Vm.topG w) u1 (T9.el c1)) {u2 : Value} {c2 : List Vm.V} (h2 : T3.Has c2) (r2 : Vm.VR (Vm.topG w) u2 (T3.el c2)) {u3 : Value} {c3 : List Vm.V} (h3 : T3.Has c3) (r3 : Vm.VR (Vm.topG w) u3 (T3.el c3)) :
    Calls Try.prog 4 #[u0, u1, u2, u3] w fun e w' => e = .returned (.bool true) ∧ Below w.heap.size w w' := by
  obtain ⟨h, fl, hr⟩ := W2.tattlerlaw14_RingWhole_top h0 h1 h2 h3
  exact Vm.top_ok W2.envOk rfl W2.fn_tattlerlaw14_RingWhole hr (.cons r0 (.cons r1 (.cons r2 (.cons r3 .nil))))

set_option maxRecDepth 100000 in
theorem lifted (os : Os) (started : os.Started) (H : Type) (enc : TypeId × Value → H) :
    ReturnsInHanded {} Try.checked os 4 .any (Rows.ringWholeSpec.pre6 enc Try.prog Try.f4 Rows.ringWholeRow.domain false) (Rows.ringWholeSpec.post enc Try.prog Try.f4 false true false false) := by
  refine returnsInHanded_of_change_sized (C := Try.checked) own started (by kernel_rfl) Try.func4
    (ChangeSpec.witness6 (enc := enc) (C := Try.checked) false ⟨#[], #[.int .i64 0, .string .empty, .int .i64 0, .int .i64 0], []⟩ 8 (by kernel_rfl) (by kernel_rfl) (by kernel_rfl) (by kernel_rfl)) ?_
  intro W base args ds gs before hval0 hW hcnd hz _
  have hval : ∀ (j : Nat) t v, Try.f4.params[j]? = some t → args[j]? = some v → Value.okWide Try.prog W .any base t v := hval0
  have hW' := hW
  obtain ⟨p, q, hA0, hV, rfl, hfz, hnd⟩ := hW
  have hA : DataW.TrodAll enc Try.prog W 0 (fun _ => true) true Try.f4.params.toList args.toList ds p := hA0
  rw [Try.params4] at hA hval
  obtain ⟨v0, vs0, d0, ds0, p0, q0, hargs, rfl, rfl, h0, r0⟩ := trodAll_cons hA
  obtain ⟨v1, vs1, d1, ds1, p1, q1, rfl, rfl, rfl, h1, r1⟩ := trodAll_cons r0
  obtain ⟨v2, vs2, d2, ds2, p2, q2, rfl, rfl, rfl, h2, r2⟩ := trodAll_cons r1
  obtain ⟨v3, vs3, d3, ds3, p3, q3, rfl, rfl, rfl, h3, r3⟩ := trodAll_cons r2
  obtain ⟨rfl, rfl, rfl⟩ := trodAll_nil r3
  obtain rfl : args = #[v0, v1, v2, v3] := by cases args; simp_all
  obtain ⟨rfl, rfl⟩ := trodVars_none hV
  have lt0 : ∀ x ∈ p0, x.block < W.heap.size := by obtain ⟨m, hm⟩ := h0; exact DataW.trod_lt m _ _ _ hm
  obtain ⟨c0, k0, g0⟩ := Vm.read_val tyOk3 (hval 0 3 v0 rfl rfl) h0 (Vm.reaches_of hz (j := 0) (t := 3) rfl rfl)
  have lt1 : ∀ x ∈ p1, x.block < W.heap.size := by obtain ⟨m, hm⟩ := h1; exact DataW.trod_lt m _ _ _ hm
  obtain ⟨c1, k1, g1⟩ := Vm.read_val tyOk9 (hval 1 9 v1 rfl rfl) h1 (Vm.reaches_of hz (j := 1) (t := 9) rfl rfl)
  have lt2 : ∀ x ∈ p2, x.block < W.heap.size := by obtain ⟨m, hm⟩ := h2; exact DataW.trod_lt m _ _ _ hm
  obtain ⟨c2, k2, g2⟩ := Vm.read_val tyOk3 (hval 2 3 v2 rfl rfl) h2 (Vm.reaches_of hz (j := 2) (t := 3) rfl rfl)
  have lt3 : ∀ x ∈ p3, x.block < W.heap.size := by obtain ⟨m, hm⟩ := h3; exact DataW.trod_lt m _ _ _ hm
  obtain ⟨c3, k3, g3⟩ := Vm.read_val tyOk3 (hval 3 3 v3 rfl rfl) h3 (Vm.reaches_of hz (j := 3) (t := 3) rfl rfl)
  clear hA0 hval0
  refine (walk W k0 g0 k1 g1 k2 g2 k3 g3).mono fun e W' ⟨he, bel⟩ => ?_
  subst he
  exact ⟨_, rfl, _, _, _, [], _, [], hW', trodAll_mk1 (shut_bool Try.underlying4 _), (trodAll_cons_mk (Below.trod laidOut (by kernel_rfl) (of_decide_eq_true (by kernel_rfl)) h0 bel lt0) (trodAll_cons_mk (Below.trod laidOut (by kernel_rfl) (of_decide_eq_true (by kernel_rfl)) h1 bel lt1) (trodAll_cons_mk (Below.trod laidOut (by kernel_rfl) (of_decide_eq_true (by kernel_rfl)) h2 bel lt2) (trodAll_cons_mk (Below.trod laidOut (by kernel_rfl) (of_decide_eq_true (by kernel_rfl)) h3 bel lt3) trodAll_mk0)))), rfl, bel.frame _, fun h => by cases h⟩

theorem over : Rows.ringWholeRow.holds Try.pinned (OpenSpec.ofChange Rows.ringWholeSpec) :=
  OpenClaim.holds_of_wide 4 Try.f4 rfl rfl rfl rfl rfl rfl rfl ⟨rfl, rfl, rfl, rfl, rfl⟩ rfl rfl rfl rfl rfl (by kernel_rfl) Try.func4 (by kernel_rfl)
    (of_decide_eq_true (by kernel_rfl)) (by unfold Func.isWrapper; first | (rw [if_pos (by decide +kernel)]; kernel_rfl) | (rw [if_neg (by decide +kernel)]; exact ⟨rfl, rfl⟩))
    (fun os started H enc _ => lifted os started H enc)

theorem proved : Rows.RingWholeSaid := over
#print axioms proved
end Go.Proofs.Ytkkionmmkmhlpaa.ringWhole
