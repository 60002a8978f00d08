/- The statement HintsPlay: for each input the law answers true, and its arguments read as before. No condition. -/
import Derived.Test.YthkfjefoblmbhaaRows
import Derived.Test.YthkfjefoblmbhaaVmHU
import Derived.WalkKit
import Derived.ProofKit
import Derived.OpenShut
import Derived.ShutString
import Derived.ChangeOld
import Derived.Below
import Derived.SizedLaws
import Derived.Carry
namespace Go.Proofs.Ythkfjefoblmbhaa.hintsPlay
open Go.ChangeShapes Go.WideShapes Go.ChangeAt Go.RowKit
set_option linter.unusedVariables false

theorem own : ownKnob Try.prog.godebug = none := by kernel_rfl
theorem laidOut : laidOutB Try.prog = true := by kernel_rfl
def T3 : Vm.Ty := (.int .i64)
theorem tyOk3 : Vm.tyOk Try.prog T3 3 = true := by kernel_rfl
def T41 : Vm.Ty := (.sl (.st (.cons (.int .i64) (.cons (.st (.cons (.int .i64) (.cons (.st (.cons .str (.cons (.st (.cons (.arr 8 (.int .i64)) (.cons (.sl (.st (.cons (.st (.cons (.int .i64) (.cons (.int .i64) .nil))) (.cons (.sl (.int .u8)) (.cons .bool .nil))))) .nil))) .nil))) .nil))) (.cons (.st (.cons (.arr 8 (.int .i64)) (.cons (.sl (.st (.cons (.st (.cons (.int .i64) (.cons (.int .i64) .nil))) (.cons (.sl (.int .u8)) (.cons .bool .nil))))) .nil))) .nil)))))
theorem tyOk41 : Vm.tyOk Try.prog T41 41 = true := by kernel_rfl

theorem walk (w : World) {u0 : Value} {c0 : List Vm.V} (h0 : T41.Has c0) (r0 : Vm.VR (Vm.topG w) u0 (T41.el c0)) {u1 : Value} {c1 : List Vm.V} (h1 : T3.Has c1) (r1 : Vm.VR (Vm.topG w) u1 (T3.el c1)) :
    Calls Try.prog 7 #[u0, u1] w fun e w' => e = .returned (.bool true) ∧ Below w.heap.size w w' := by
  obtain ⟨h, fl, hr⟩ := W1.tattlerlaw11_HintsPlay_top h0 h1
  exact Vm.top_ok W1.envOk rfl W1.fn_tattlerlaw11_HintsPlay hr (.cons r0 (.cons r1 .nil))

set_option maxRecDepth 100000 in
theorem lifted (os : Os) (started : os.Started) (H : Type) (enc : TypeId × Value → H) :
    ReturnsInHanded {} Try.checked os 7 .any (Rows.hintsPlaySpec.pre6 enc Try.prog Try.f7 Rows.hintsPlayRow.domain false) (Rows.hintsPlaySpec.post enc Try.prog Try.f7 false true false false) := by
  refine returnsInHanded_of_change_sized (C := Try.checked) own started (by kernel_rfl) Try.func7
    (ChangeSpec.witness6 (enc := enc) (C := Try.checked) false ⟨#[], #[.slice none 0 0, .int .i64 0], []⟩ 8 (by kernel_rfl) (by kernel_rfl) (by kernel_rfl) (by kernel_rfl)) ?_
  intro W base args ds gs before hval0 hW hcnd hz _
  have hval : ∀ (j : Nat) t v, Try.f7.params[j]? = some t → args[j]? = some v → Value.okWide Try.prog W .any base t v := hval0
  have hW' := hW
  obtain ⟨p, q, hA0, hV, rfl, hfz, hnd⟩ := hW
  have hA : DataW.TrodAll enc Try.prog W 0 (fun _ => true) true Try.f7.params.toList args.toList ds p := hA0
  rw [Try.params7] at hA hval
  obtain ⟨v0, vs0, d0, ds0, p0, q0, hargs, rfl, rfl, h0, r0⟩ := trodAll_cons hA
  obtain ⟨v1, vs1, d1, ds1, p1, q1, rfl, rfl, rfl, h1, r1⟩ := trodAll_cons r0
  obtain ⟨rfl, rfl, rfl⟩ := trodAll_nil r1
  obtain rfl : args = #[v0, v1] := by cases args; simp_all
  obtain ⟨rfl, rfl⟩ := trodVars_none hV
  have lt0 : ∀ x ∈ p0, x.block < W.heap.size := by obtain ⟨m, hm⟩ := h0; exact DataW.trod_lt m _ _ _ hm
  obtain ⟨c0, k0, g0⟩ := Vm.read_val tyOk41 (hval 0 41 v0 rfl rfl) h0 (Vm.reaches_of hz (j := 0) (t := 41) rfl rfl)
  have lt1 : ∀ x ∈ p1, x.block < W.heap.size := by obtain ⟨m, hm⟩ := h1; exact DataW.trod_lt m _ _ _ hm
  obtain ⟨c1, k1, g1⟩ := Vm.read_val tyOk3 (hval 1 3 v1 rfl rfl) h1 (Vm.reaches_of hz (j := 1) (t := 3) rfl rfl)
  clear hA0 hval0
  refine (walk W k0 g0 k1 g1).mono fun e W' ⟨he, bel⟩ => ?_
  subst he
  exact ⟨_, rfl, _, _, _, [], _, [], hW', trodAll_mk1 (shut_bool Try.underlying4 _), (trodAll_cons_mk (Below.trod laidOut (by kernel_rfl) (of_decide_eq_true (by kernel_rfl)) h0 bel lt0) (trodAll_cons_mk (Below.trod laidOut (by kernel_rfl) (of_decide_eq_true (by kernel_rfl)) h1 bel lt1) trodAll_mk0)), rfl, bel.frame _, fun h => by cases h⟩

theorem over : Rows.hintsPlayRow.holds Try.pinned (OpenSpec.ofChange Rows.hintsPlaySpec) :=
  OpenClaim.holds_of_wide 7 Try.f7 rfl rfl rfl rfl rfl rfl rfl ⟨rfl, rfl, rfl, rfl, rfl⟩ rfl rfl rfl rfl rfl (by kernel_rfl) Try.func7 (by kernel_rfl)
    (of_decide_eq_true (by kernel_rfl)) (by unfold Func.isWrapper; first | (rw [if_pos (by decide +kernel)]; kernel_rfl) | (rw [if_neg (by decide +kernel)]; exact ⟨rfl, rfl⟩))
    (fun os started H enc _ => lifted os started H enc)

theorem proved : Rows.HintsPlaySaid := over
#print axioms proved
end Go.Proofs.Ythkfjefoblmbhaa.hintsPlay
