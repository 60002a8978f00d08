/- Lists of hints, of entries, compared with themselves. -/
import Derived.Test.YthkfjefoblmbhaaVmHI
import Derived.Test.YthkfjefoblmbhaaVmKQ
set_option linter.unusedVariables false
set_option linter.unusedSimpArgs false
namespace Go.Proofs.Ythkfjefoblmbhaa.V
open Go.Vm

theorem HInv.vals {l : List Hnt} (inv : HInv l) : ∀ x ∈ l, x.ent.sib.vals.length ≤ 1099511627776 := fun x hx => by
  have := may_len (mayH_sib (inv.may x hx))
  have h2 : x.sib.vals.length = x.ent.sib.vals.length := rfl
  omega
/-! ### of one node and key there is one hint -/
end Go.Proofs.Ythkfjefoblmbhaa.V
