/- The set's list frozen: what 'All', 'Len', 'For' and 'First' compute then. -/
import Derived.Test.YthkfjefoblmbhaaVmHR
import Derived.Test.YthkfjefoblmbhaaVH1
set_option linter.unusedVariables false
set_option linter.unusedSimpArgs false
namespace Go.Proofs.Ythkfjefoblmbhaa.W1
open Go.Vm Go.Proofs.Ythkfjefoblmbhaa.V

theorem frz_hs {H : Heap} {i k : Nat} {l : List Hnt} (h : hget H i = some (.cells [lV k l.length] [])) (hk : hget H k = some (lO l)) : frzcV 11 true H (.ptr (some (i, 0))) = some (.undef, hset (hset H k .dead) i (rsO l), .no) := by
  have hik : k ≠ i := fun e => by
    subst e
    rw [h] at hk
    cases l with
    | nil => cases hk
    | cons x l =>
      rw [lO_pos (by simp)] at hk
      injection hk with hk
      injection hk with hk
      have := congrArg List.length hk
      rw [hnt_len] at this
      simp at this
      omega
  have e1 : cellsAt H i = some ([lV k l.length], []) := by unfold cellsAt; rw [h]
  show bnd (cellsAt H i) _ = _
  rw [e1]
  cases l with
  | nil => 
    have hk' : hget H k = some .emp := hk
    simp [lV, pureL, mcells, hk', msizeA, ownNot, mnot, mkill, hik, chunks, rsO]
  | cons x l =>
    have hp : 0 < (x :: l).length := by simp
    rw [lO_pos hp] at hk
    rw [lV_pos k hp]
    have h1 := hnt_len (x :: l)
    have h2 := hnt_pure (x :: l)
    have h3 := hnt_chunks (x :: l)
    unfold rsO
    generalize (x :: l).map Hnt.v = LV at *
    generalize (x :: l).flatMap Hnt.c = FL at *
    generalize hn : (x :: l).length = n at *
    have ht : FL.take (n * 11) = FL := List.take_of_length_le (by omega)
    have hle : n * 11 ≤ FL.length := by omega
    simp [pureL, mcells, hk, msizeA, ownNot, mnot, mkill, hik, hle, ht, h2, h3]
section
variable {h : Heap} {i : Nat} {l : List Hnt} (hi : hget h i = some (rsO l)) (inv : HInv l)
include hi inv
theorem pAll_eq : callL E F.hints_Set_All [.ptr (some (i, 0))] h = some (.sl (l.map Hnt.v), h, .no) := by
  refine callL_of rfl fn_hints_Set_All ?_
  have hi' : hget h i = some (.cells [.sl (l.map Hnt.v)] []) := hi
  have key := loop_to (C := callL E) (fb := h.length) (live := [3, 11, 12, 13]) (c := c_hints_Set_All_l0)
    (fun j => ⟨[(3, .sl ((l.take j).map Hnt.v)), (11, .sl (l.map Hnt.v)), (12, .int .i64 l.length), (13, .int .i64 j)], h, .no⟩) l.length
    (r := (.exit 0, ⟨[(3, .sl (l.map Hnt.v)), (11, .sl (l.map Hnt.v)), (12, .int .i64 l.length), (13, .int .i64 l.length), (14, .bool false)], h, .no⟩)) (fun j hj => ?_) ?_ rfl
  · rw [show ((0 : Nat) : Int) = 0 from rfl, List.take_zero, List.map_nil] at key
    have hlm : (l.map Hnt.v).length = l.length := by simp
    generalize l.map Hnt.v = L at *
    simp [-getElem?_pos, c_hints_Set_All, hi', key, hlm]
    done
  · obtain ⟨x, hx, _, hm⟩ := get_of_lt (l := l) (i := j) hj
    have hlt : (j : Int) < (l.length : Int) := by omega
    have hlen := inv.len
    have h1 := i64_add1 (n := j) (by omega)
    have g := fun H => up_hints_copied (hintsCopied_eq x H)
    have hc : x.with (x.sib.join x.sib) = x := cpH_self (inv.may x hm)
    rw [hc] at g
    have ht : (l.take (j + 1)).map Hnt.v = (l.take j).map Hnt.v ++ [x.v] := by rw [List.take_add_one, hx]; simp
    have hb : ((l.take j).length + 1) * 112 ≤ 140737488355328 := by
      have := List.length_take_le j l
      omega
    have hz := sizeOk_hnts (l.take j)
    have hl2 : ((l.take j).map Hnt.v).length = (l.take j).length := by simp
    have hgx : (l.map Hnt.v)[j]? = some x.v := by simp [hx]
    rw [s_round, ht]
    rw [← hl2] at hb
    generalize (l.take j).map Hnt.v = LT at *
    generalize l.map Hnt.v = L at *
    simp [-getElem?_pos, c_hints_Set_All_l0, hlt, hgx, h1, g, hb, hz]
    done
  · rw [s_round, List.take_length]
    generalize l.map Hnt.v = L at *
    simp [c_hints_Set_All_l0]
    done
theorem pLen_eq : callL E F.hints_Set_Len [.ptr (some (i, 0))] h = some (.int .i64 l.length, h, .no) := by
  refine callL_of rfl fn_hints_Set_Len ?_
  have g := pAll_eq hi inv
  simp [-getElem?_pos, c_hints_Set_Len, g]
  done
omit hi in
theorem pfor_loop (n : Int) :
    loopRun (callL E) loopL h.length [1, 5, 9, 10, 11] c_hints_Set_For_l0 ⟨[(1, .int .i64 n), (5, .sl []), (9, .sl (l.map Hnt.v)), (10, .int .i64 l.length), (11, .int .i64 0)], h, .no⟩ =
      some (.exit 0, ⟨[(1, .int .i64 n), (5, .sl ((forH l n).map Ent.v)), (9, .sl (l.map Hnt.v)), (10, .int .i64 l.length), (11, .int .i64 l.length), (12, .bool false)], h, .no⟩) := by
  have hl := inv.len
  have k2 := loop_to (C := callL E) (fb := h.length) (live := [1, 5, 9, 10, 11]) (c := c_hints_Set_For_l0)
    (fun j => ⟨[(1, .int .i64 n), (5, .sl ((forH (l.take j) n).map Ent.v)), (9, .sl (l.map Hnt.v)), (10, .int .i64 l.length), (11, .int .i64 j)], h, .no⟩) l.length
    (r := (.exit 0, ⟨[(1, .int .i64 n), (5, .sl ((forH l n).map Ent.v)), (9, .sl (l.map Hnt.v)), (10, .int .i64 l.length), (11, .int .i64 l.length), (12, .bool false)], h, .no⟩)) (fun j hj => ?_) ?_ rfl
  · exact k2
  · obtain ⟨x, hx, _, _⟩ := get_of_lt (l := l) (i := j) hj
    have hlt : (j : Int) < (l.length : Int) := by omega
    have h1 := i64_add1 (n := j) (by omega)
    have hfl := forH_len (l.take j) n
    have htl := List.length_take_le j l
    have hb : ((forH (l.take j) n).length + 1) * 104 ≤ 140737488355328 := by omega
    have hz := sizeOk_ents (forH (l.take j) n)
    have hlL : ((forH (l.take j) n).map Ent.v).length = (forH (l.take j) n).length := by simp
    rw [s_round, forH_take hx]
    by_cases hn : x.node = n
    · rw [decide_eq_true hn, cnd_true, List.map_append]
      rw [← hlL] at hb
      generalize (forH (l.take j) n).map Ent.v = LT at *
      simp [-getElem?_pos, c_hints_Set_For_l0, hlt, hj, hx, h1, hn, hb, hz]
      done
    · have hnb : (x.node == n) = false := by simpa using hn
      rw [decide_eq_false hn, cnd_false, List.append_nil]
      generalize (forH (l.take j) n).map Ent.v = LT at *
      simp [-getElem?_pos, c_hints_Set_For_l0, hlt, hj, hx, h1, hnb]
      done
  · rw [s_round, List.take_length]
    simp [c_hints_Set_For_l0]
    done
theorem pFor_eq (n : Int) : callL E F.hints_Set_For [.ptr (some (i, 0)), .int .i64 n] h = some (.sl ((forH l n).map Ent.v), h, .no) := by
  refine callL_of rfl fn_hints_Set_For ?_
  have g := pAll_eq hi inv
  have key := pfor_loop (h := h) inv n
  generalize (forH l n).map Ent.v = R at *
  simp [-getElem?_pos, c_hints_Set_For, g, key]
  done
theorem pFirst_eq : callL E F.hints_Set_First [.ptr (some (i, 0))] h = some (.tup [(l.headD zeroHnt).v, .bool (decide (0 < l.length))], h, .no) := by
  refine callL_of rfl fn_hints_Set_First ?_
  have hlt := hget_lt hi
  have g := fun L => pAll_eq (h := h ++ L) (i := i) (l := l) (by rw [hget_app hlt]; exact hi) inv
  cases l with
  | nil =>
    have hz : zeroHnt.v = .agg [.int .i64 0, .str [], .int .i64 0, .int .i64 0, .int .i64 0, .int .i64 0, .int .i64 0, .int .i64 0, .int .i64 0, .int .i64 0, .sl []] := rfl
    simp [-getElem?_pos, c_hints_Set_First, g, hz]
    done
  | cons a l =>
    have e : (((l.length : Int) + 1) == 0) = false := by simp; omega
    simp [-getElem?_pos, c_hints_Set_First, g, e]
    done
end
end Go.Proofs.Ythkfjefoblmbhaa.W1
