/- What the document's own functions compute: live data, dots, reaped, Leq; the same. -/
import Derived.Test.YtionebfmjjpnbaaVmSD
import Derived.Test.YtionebfmjjpnbaaVmKQ
import Derived.Test.YtionebfmjjpnbaaVmSM
set_option linter.unusedVariables false
set_option linter.unusedSimpArgs false
namespace Go.Proofs.Ytionebfmjjpnbaa.V
open Go.Vm

theorem lives_empty {l : List Val} : (lives l).length = 0 ↔ (l.any fun v => !v.dead) = false := by
  induction l with
  | nil => simp [lives]
  | cons v l ih =>
    simp only [lives, List.any_cons]
    cases v.dead with
    | false => simp
    | true => simpa using ih
theorem sameBytes_self (l : List (List UInt8)) (hl : l.length ≤ 1000000) (h : Heap) : callL E F.tattlerref5_SameBytes [.sl (l.map bytesV), .sl (l.map bytesV)] h = some (.bool true, h, .no) := by
  refine callL_of rfl fn_tattlerref5_SameBytes ?_
  have key := loop_to (C := callL E) (fb := h.length) (live := [0, 1, 12, 13]) (c := c_tattlerref5_SameBytes_l0)
    (fun j => ⟨[(0, .sl (l.map bytesV)), (1, .sl (l.map bytesV)), (12, .int .i64 l.length), (13, .int .i64 j)], h, .no⟩) l.length
    (r := (.exit 0, ⟨[(0, .sl (l.map bytesV)), (1, .sl (l.map bytesV)), (12, .int .i64 l.length), (13, .int .i64 l.length), (14, .bool false)], h, .no⟩)) (fun j hj => ?_) ?_ rfl
  · rw [show ((0 : Nat) : Int) = 0 from rfl] at key
    simp [-getElem?_pos, c_tattlerref5_SameBytes, key]
  · obtain ⟨v, hx, _, _⟩ := get_of_lt (l := l) (i := j) hj
    have hlt : (j : Int) < (l.length : Int) := by omega
    have h1 := i64_add1 (n := j) (by omega)
    have hv : bytesV v = .sl (v.map byteV) := rfl
    rw [s_round]
    simp [-getElem?_pos, c_tattlerref5_SameBytes_l0, hlt, hj, hx, h1, hv]
    done
  · rw [s_round]
    simp [c_tattlerref5_SameBytes_l0]
end Go.Proofs.Ytionebfmjjpnbaa.V
