/- What 'keys.Bucket' computes. -/
import Derived.Test.YtionebfmjjpnbaaGreatVmTV
set_option linter.unusedVariables false
set_option linter.unusedSimpArgs false
namespace Go.Proofs.YtionebfmjjpnbaaGreat.V
open Go.Vm

/-- A key's bucket. -/
def bkt (k : List UInt8) : Nat := k.foldl (fun n c => (n + c.toNat) % 4) 0
theorem bkt_lt (k : List UInt8) : bkt k < 4 := by
  unfold bkt
  have : ∀ (l : List UInt8) (n : Nat), n < 4 → l.foldl (fun n c => (n + c.toNat) % 4) n < 4 := by
    intro l
    induction l with
    | nil => intro n h; exact h
    | cons c l ih => intro n h; exact ih _ (Nat.mod_lt _ (by omega))
  exact this k 0 (by omega)
theorem bkt_step (n c : Nat) (hn : n < 4) (hc : c < 256) : (IntKind.i64.wrap ((n : Int) + IntKind.i64.wrap (c : Int))).tmod 4 = (((n + c) % 4 : Nat) : Int) := by
  have h1 : IntKind.i64.wrap (c : Int) = (c : Int) := by rw [wrap_i64] <;> omega
  rw [h1]
  have h2 : IntKind.i64.wrap ((n : Int) + (c : Int)) = ((n + c : Nat) : Int) := by rw [wrap_i64] <;> omega
  rw [h2, Int.tmod_eq_emod_of_nonneg (by omega)]
  omega
theorem keysBucket_eq (k : List UInt8) (hk : k.length ≤ 1000000) (h : Heap) : callL E F.keys_Bucket [.str k] h = some (.int .i64 (bkt k), h, .no) := by
  refine callL_of rfl fn_keys_Bucket ?_
  have key := loop_to (C := callL E) (fb := h.length) (live := [3, 7, 8, 9]) (c := c_keys_Bucket_l0)
    (fun j => ⟨[(3, .int .i64 (bkt (k.take j))), (7, .sl (k.map byteV)), (8, .int .i64 k.length), (9, .int .i64 j)], h, .no⟩) k.length
    (r := (.exit 0, ⟨[(3, .int .i64 (bkt k)), (7, .sl (k.map byteV)), (8, .int .i64 k.length), (9, .int .i64 k.length), (10, .bool false)], h, .no⟩)) (fun j hj => ?_) ?_ rfl
  · rw [show ((0 : Nat) : Int) = 0 from rfl, List.take_zero, show bkt [] = 0 from rfl, show ((0 : Nat) : Int) = 0 from rfl] at key
    simp [-getElem?_pos, c_keys_Bucket, key]
    done
  · obtain ⟨c, hx, _, _⟩ := get_of_lt (l := k) (i := j) hj
    have hlt : (j : Int) < (k.length : Int) := by omega
    have h1 := i64_add1 (n := j) (by omega)
    have hb : bkt (k.take (j + 1)) = (bkt (k.take j) + c.toNat) % 4 := foldl_takeG hx
    have hs := bkt_step (bkt (k.take j)) c.toNat (bkt_lt _) (by have := c.toNat_lt; omega)
    rw [← hb] at hs
    generalize bkt (k.take (j + 1)) = B at *
    generalize bkt (k.take j) = A at *
    rw [s_round]
    simp [-getElem?_pos, c_keys_Bucket_l0, hlt, hj, hx, h1, hs, byteV]
    done
  · rw [s_round, List.take_length]
    simp [c_keys_Bucket_l0]
theorem r5Bucket_eq (k : List UInt8) (hk : k.length ≤ 1000000) (h : Heap) : callL E F.tattlerref5_Bucket [.str k] h = some (.int .i64 (bkt k), h, .no) := by
  refine callL_of rfl fn_tattlerref5_Bucket ?_
  have key := loop_to (C := callL E) (fb := h.length) (live := [0, 3, 6, 7]) (c := c_tattlerref5_Bucket_l0)
    (fun j => ⟨[(0, .str k), (3, .int .i64 (bkt (k.take j))), (6, .int .i64 k.length), (7, .int .i64 j)], h, .no⟩) k.length
    (r := (.exit 0, ⟨[(0, .str k), (3, .int .i64 (bkt k)), (6, .int .i64 k.length), (7, .int .i64 k.length), (8, .bool false)], h, .no⟩)) (fun j hj => ?_) ?_ rfl
  · rw [show ((0 : Nat) : Int) = 0 from rfl, List.take_zero, show bkt [] = 0 from rfl, show ((0 : Nat) : Int) = 0 from rfl] at key
    simp [-getElem?_pos, c_tattlerref5_Bucket, key]
    done
  · obtain ⟨c, hx, _, _⟩ := get_of_lt (l := k) (i := j) hj
    have hlt : (j : Int) < (k.length : Int) := by omega
    have h1 := i64_add1 (n := j) (by omega)
    have hb : bkt (k.take (j + 1)) = (bkt (k.take j) + c.toNat) % 4 := foldl_takeG hx
    have hs := bkt_step (bkt (k.take j)) c.toNat (bkt_lt _) (by have := c.toNat_lt; omega)
    rw [← hb] at hs
    generalize bkt (k.take (j + 1)) = B at *
    generalize bkt (k.take j) = A at *
    rw [s_round]
    simp [-getElem?_pos, c_tattlerref5_Bucket_l0, hlt, hj, hx, h1, hs, byteV]
    done
  · rw [s_round, List.take_length]
    simp [c_tattlerref5_Bucket_l0]
end Go.Proofs.YtionebfmjjpnbaaGreat.V
