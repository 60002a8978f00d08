/- The statement TableJoins: for each input the law answers true, and its arguments read as before. No condition. -/
import Derived.Test.YtionebfmjjpnbaaGreatRows
import Derived.Test.YtionebfmjjpnbaaGreatVmTJN
import Derived.WalkKit
import Derived.ProofKit
import Derived.OpenShut
import Derived.ShutString
import Derived.ChangeOld
import Derived.Below
import Derived.SizedLaws
import Derived.Carry
namespace Go.Proofs.YtionebfmjjpnbaaGreat.tableJoins
open Go.ChangeShapes Go.WideShapes Go.ChangeAt Go.RowKit
set_option linter.unusedVariables false

theorem own : ownKnob Tryz.prog.godebug = none := by kernel_rfl
theorem laidOut : laidOutB Tryz.prog = true := by kernel_rfl
def T9 : Vm.Ty := .str
theorem tyOk9 : Vm.tyOk Tryz.prog T9 9 = true := by kernel_rfl
def T22 : Vm.Ty := (.sl (.st (.cons .str (.cons (.st (.cons (.arr 8 (.int .i64)) (.cons (.sl (.st (.cons (.st (.cons (.int .i64) (.cons (.int .i64) .nil))) (.cons (.sl (.int .u8)) (.cons .bool .nil))))) .nil))) .nil))))
theorem tyOk22 : Vm.tyOk Tryz.prog T22 22 = true := by kernel_rfl
def T23 : Vm.Ty := (.sl .str)
theorem tyOk23 : Vm.tyOk Tryz.prog T23 23 = true := by kernel_rfl

theorem walk (w : World) {u0 : Value} {c0 : List Vm.V} (h0 : T22.Has c0) (r0 : Vm.VR (Vm.topG w) u0 (T22.el c0)) {u1 : Value} {c1 : List Vm.V} (h1 : T23.Has c1) (r1 : Vm.VR (Vm.topG w) u1 (T23.el c1)) {u2 : Value} {c2 : List Vm.V} (h2 : T9.Has c2) (r2 : Vm.VR (Vm.topG w) u2 (T9.el c2)) :
    Calls Tryz.prog 3 #[u0, u1, u2] w fun e w' => e = .returned (.bool true) ∧ Below w.heap.size w w' := by
  obtain ⟨h, fl, hr⟩ := W3.tattlerlaw10_TableJoins_top h0 h1 h2
  exact Vm.top_ok W3.envOk rfl W3.fn_tattlerlaw10_TableJoins hr (.cons r0 (.cons r1 (.cons r2 .nil)))

set_option maxRecDepth 100000 in
theorem lifted (os : Os) (started : os.Started) (H : Type) (enc : TypeId × Value → H) :
    ReturnsInHanded {} Tryz.checked os 3 .any (Rows.tableJoinsSpec.pre6 enc Tryz.prog Tryz.f3 Rows.tableJoinsRow.domain false) (Rows.tableJoinsSpec.post enc Tryz.prog Tryz.f3 false true false false) := by
  refine returnsInHanded_of_change_sized (C := Tryz.checked) own started (by kernel_rfl) Tryz.func3
    (ChangeSpec.witness6 (enc := enc) (C := Tryz.checked) false ⟨#[], #[.slice none 0 0, .slice none 0 0, .string .empty], []⟩ 8 (by kernel_rfl) (by kernel_rfl) (by kernel_rfl) (by kernel_rfl)) ?_
  intro W base args ds gs before hval0 hW hcnd hz _
  have hval : ∀ (j : Nat) t v, Tryz.f3.params[j]? = some t → args[j]? = some v → Value.okWide Tryz.prog W .any base t v := hval0
  have hW' := hW
  obtain ⟨p, q, hA0, hV, rfl, hfz, hnd⟩ := hW
  have hA : DataW.TrodAll enc Tryz.prog W 0 (fun _ => true) true Tryz.f3.params.toList args.toList ds p := hA0
  rw [Tryz.params3] at hA hval
  obtain ⟨v0, vs0, d0, ds0, p0, q0, hargs, rfl, rfl, h0, r0⟩ := trodAll_cons hA
  obtain ⟨v1, vs1, d1, ds1, p1, q1, rfl, rfl, rfl, h1, r1⟩ := trodAll_cons r0
  obtain ⟨v2, vs2, d2, ds2, p2, q2, rfl, rfl, rfl, h2, r2⟩ := trodAll_cons r1
  obtain ⟨rfl, rfl, rfl⟩ := trodAll_nil r2
  obtain rfl : args = #[v0, v1, v2] := by cases args; simp_all
  obtain ⟨rfl, rfl⟩ := trodVars_none hV
  have lt0 : ∀ x ∈ p0, x.block < W.heap.size := by obtain ⟨m, hm⟩ := h0; exact DataW.trod_lt m _ _ _ hm
  obtain ⟨c0, k0, g0⟩ := Vm.read_val tyOk22 (hval 0 22 v0 rfl rfl) h0 (Vm.reaches_of hz (j := 0) (t := 22) rfl rfl)
  have lt1 : ∀ x ∈ p1, x.block < W.heap.size := by obtain ⟨m, hm⟩ := h1; exact DataW.trod_lt m _ _ _ hm
  obtain ⟨c1, k1, g1⟩ := Vm.read_val tyOk23 (hval 1 23 v1 rfl rfl) h1 (Vm.reaches_of hz (j := 1) (t := 23) rfl rfl)
  have lt2 : ∀ x ∈ p2, x.block < W.heap.size := by obtain ⟨m, hm⟩ := h2; exact DataW.trod_lt m _ _ _ hm
  obtain ⟨c2, k2, g2⟩ := Vm.read_val tyOk9 (hval 2 9 v2 rfl rfl) h2 (Vm.reaches_of hz (j := 2) (t := 9) rfl rfl)
  clear hA0 hval0
  refine (walk W k0 g0 k1 g1 k2 g2).mono fun e W' ⟨he, bel⟩ => ?_
  subst he
  exact ⟨_, rfl, _, _, _, [], _, [], hW', trodAll_mk1 (shut_bool Tryz.underlying4 _), (trodAll_cons_mk (Below.trod laidOut (by kernel_rfl) (of_decide_eq_true (by kernel_rfl)) h0 bel lt0) (trodAll_cons_mk (Below.trod laidOut (by kernel_rfl) (of_decide_eq_true (by kernel_rfl)) h1 bel lt1) (trodAll_cons_mk (Below.trod laidOut (by kernel_rfl) (of_decide_eq_true (by kernel_rfl)) h2 bel lt2) trodAll_mk0))), rfl, bel.frame _, fun h => by cases h⟩

theorem over : Rows.tableJoinsRow.holds Tryz.pinned (OpenSpec.ofChange Rows.tableJoinsSpec) :=
  OpenClaim.holds_of_wide 3 Tryz.f3 rfl rfl rfl rfl rfl rfl rfl ⟨rfl, rfl, rfl, rfl, rfl⟩ rfl rfl rfl rfl rfl (by kernel_rfl) Tryz.func3 (by kernel_rfl)
    (of_decide_eq_true (by kernel_rfl)) (by unfold Func.isWrapper; first | (rw [if_pos (by decide +kernel)]; kernel_rfl) | (rw [if_neg (by decide +kernel)]; exact ⟨rfl, rfl⟩))
    (fun os started H enc _ => lifted os started H enc)

theorem proved : Rows.TableJoinsSaid := over
#print axioms proved
end Go.Proofs.YtionebfmjjpnbaaGreat.tableJoins
