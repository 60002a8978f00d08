/- RingNil. -/
import Derived.Test.YtkkionmmkmhlpaaVmRGL
import Derived.Test.YtkkionmmkmhlpaaVRO
set_option linter.unusedVariables false
set_option linter.unusedSimpArgs false
namespace Go.Proofs.Ytkkionmmkmhlpaa.W2
open Go.Vm Go.Proofs.Ytkkionmmkmhlpaa.V

theorem new_up (n : Int) (h : Heap) : callL E F.ring_New [.int .i64 n] h = some (.ptr (some (h.length, 0)), h ++ [rgO (nodesOf n) 0 0 0 .nsl], .no) := up_ring_New (new_eq n h)
theorem take_same {h h' : Heap} (hl : h.length ≤ h'.length) (hf : ∀ j, j < h.length → h'[j]? = h[j]?) : h'.take h.length = h := by
  apply List.ext_getElem?
  intro j
  rw [List.getElem?_take]
  split
  · rename_i hj; exact hf j hj
  · rename_i hj; rw [List.getElem?_eq_none (by omega)]
theorem awake14_eq (h : Heap) : callL E F.tattlerlaw14_awake [] h = some (.bool true, h, .no) := by
  refine callL_of rfl fn_tattlerlaw14_awake ?_
  have gn1 := new_up 1 h
  rw [show nodesOf 1 = 1 from rfl] at gn1
  obtain ⟨h1, e1, he1, g1, hl1, hf1, hR1⟩ := order_new (h := h ++ [rgO 1 0 0 0 .nsl]) (i := h.length) (n := 1) (by simp) (by omega) [107] (by simp)
  have gn2 := new_up 5 h1
  rw [show nodesOf 5 = 5 from rfl] at gn2
  obtain ⟨h2, e2, he2, g2, hl2, hf2, hR2⟩ := order_new (h := h1 ++ [rgO 5 0 0 0 .nsl]) (i := h1.length) (n := 5) (by simp) (by omega) [107] (by simp)
  have o5 := orderN_length 5 [107]
  have o5' : ((orderN 5 [107]).map iV).length = 5 := by simpa using o5
  rw [orderN_one] at g1
  simp only [List.length_append, List.length_cons, List.length_nil] at hl1 hl2
  have ht : h2.take h.length = h := take_same (by omega) fun j hj => by
    rw [hf2 j (by simp; omega) (by omega), List.getElem?_append_left (by omega), hf1 j (by simp; omega) (by omega), List.getElem?_append_left hj]
  have n1 : ¬ h1.length < h.length := by omega
  have n2 : h.length ≤ h1.length := by omega
  have n3 : ¬ h1.length = h.length := by omega
  rcases he1 with rfl | rfl <;> rcases he2 with rfl | rfl <;> simp [-getElem?_pos, c_tattlerlaw14_awake, gn1, g1, gn2, g2, o5', o5, ht, n1, n2, n3]
end Go.Proofs.Ytkkionmmkmhlpaa.W2
