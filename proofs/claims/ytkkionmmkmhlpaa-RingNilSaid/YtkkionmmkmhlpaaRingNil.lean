/- The statement RingNil: for each input the law answers true, and its arguments read as before. No condition. -/
import Derived.Test.YtkkionmmkmhlpaaRows
import Derived.Test.YtkkionmmkmhlpaaVmRGN
import Derived.WalkKit
import Derived.ProofKit
import Derived.OpenShut
import Derived.ShutString
import Derived.ChangeOld
import Derived.Below
import Derived.SizedLaws
import Derived.Carry
namespace Go.Proofs.Ytkkionmmkmhlpaa.ringNil
open Go.ChangeShapes Go.WideShapes Go.ChangeAt Go.RowKit
set_option linter.unusedVariables false

theorem own : ownKnob Try.prog.godebug = none := by kernel_rfl
theorem laidOut : laidOutB Try.prog = true := by kernel_rfl
def T3 : Vm.Ty := (.int .i64)
theorem tyOk3 : Vm.tyOk Try.prog T3 3 = true := by kernel_rfl
def T9 : Vm.Ty := .str
theorem tyOk9 : Vm.tyOk Try.prog T9 9 = true := by kernel_rfl

theorem walk (w : World) {u0 : Value} {c0 : List Vm.V} (h0 : T9.Has c0) (r0 : Vm.VR (Vm.topG w) u0 (T9.el c0)) {u1 : Value} {c1 : List Vm.V} (h1 : T3.Has c1) (r1 : Vm.VR (Vm.topG w) u1 (T3.el c1)) :
    Calls Try.prog 6 #[u0, u1] w fun e w' => e = .returned (.bool true) ∧ Below w.heap.size w w' := by
  obtain ⟨h, fl, hr⟩ := W2.tattlerlaw14_RingNil_top h0 h1
  exact Vm.top_ok W2.envOk rfl W2.fn_tattlerlaw14_RingNil hr (.cons r0 (.cons r1 .nil))

set_option maxRecDepth 100000 in
theorem lifted (os : Os) (started : os.Started) (H : Type) (enc : TypeId × Value → H) :
    ReturnsInHanded {} Try.checked os 6 .any (Rows.ringNilSpec.pre6 enc Try.prog Try.f6 Rows.ringNilRow.domain false) (Rows.ringNilSpec.post enc Try.prog Try.f6 false true false false) := by
  refine returnsInHanded_of_change_sized (C := Try.checked) own started (by kernel_rfl) Try.func6
    (ChangeSpec.witness6 (enc := enc) (C := Try.checked) false ⟨#[], #[.string .empty, .int .i64 0], []⟩ 8 (by kernel_rfl) (by kernel_rfl) (by kernel_rfl) (by kernel_rfl)) ?_
  intro W base args ds gs before hval0 hW hcnd hz _
  have hval : ∀ (j : Nat) t v, Try.f6.params[j]? = some t → args[j]? = some v → Value.okWide Try.prog W .any base t v := hval0
  have hW' := hW
  obtain ⟨p, q, hA0, hV, rfl, hfz, hnd⟩ := hW
  have hA : DataW.TrodAll enc Try.prog W 0 (fun _ => true) true Try.f6.params.toList args.toList ds p := hA0
  rw [Try.params6] at hA hval
  obtain ⟨v0, vs0, d0, ds0, p0, q0, hargs, rfl, rfl, h0, r0⟩ := trodAll_cons hA
  obtain ⟨v1, vs1, d1, ds1, p1, q1, rfl, rfl, rfl, h1, r1⟩ := trodAll_cons r0
  obtain ⟨rfl, rfl, rfl⟩ := trodAll_nil r1
  obtain rfl : args = #[v0, v1] := by cases args; simp_all
  obtain ⟨rfl, rfl⟩ := trodVars_none hV
  have lt0 : ∀ x ∈ p0, x.block < W.heap.size := by obtain ⟨m, hm⟩ := h0; exact DataW.trod_lt m _ _ _ hm
  obtain ⟨c0, k0, g0⟩ := Vm.read_val tyOk9 (hval 0 9 v0 rfl rfl) h0 (Vm.reaches_of hz (j := 0) (t := 9) rfl rfl)
  have lt1 : ∀ x ∈ p1, x.block < W.heap.size := by obtain ⟨m, hm⟩ := h1; exact DataW.trod_lt m _ _ _ hm
  obtain ⟨c1, k1, g1⟩ := Vm.read_val tyOk3 (hval 1 3 v1 rfl rfl) h1 (Vm.reaches_of hz (j := 1) (t := 3) rfl rfl)
  clear hA0 hval0
  refine (walk W k0 g0 k1 g1).mono fun e W' ⟨he, bel⟩ => ?_
  subst he
  exact ⟨_, rfl, _, _, _, [], _, [], hW', trodAll_mk1 (shut_bool Try.underlying4 _), (trodAll_cons_mk (Below.trod laidOut (by kernel_rfl) (of_decide_eq_true (by kernel_rfl)) h0 bel lt0) (trodAll_cons_mk (Below.trod laidOut (by kernel_rfl) (of_decide_eq_true (by kernel_rfl)) h1 bel lt1) trodAll_mk0)), rfl, bel.frame _, fun h => by cases h⟩

theorem over : Rows.ringNilRow.holds Try.pinned (OpenSpec.ofChange Rows.ringNilSpec) :=
  OpenClaim.holds_of_wide 6 Try.f6 rfl rfl rfl rfl rfl rfl rfl ⟨rfl, rfl, rfl, rfl, rfl⟩ rfl rfl rfl rfl rfl (by kernel_rfl) Try.func6 (by kernel_rfl)
    (of_decide_eq_true (by kernel_rfl)) (by unfold Func.isWrapper; first | (rw [if_pos (by decide +kernel)]; kernel_rfl) | (rw [if_neg (by decide +kernel)]; exact ⟨rfl, rfl⟩))
    (fun os started H enc _ => lifted os started H enc)

theorem proved : Rows.RingNilSaid := over
#print axioms proved
end Go.Proofs.Ytkkionmmkmhlpaa.ringNil
