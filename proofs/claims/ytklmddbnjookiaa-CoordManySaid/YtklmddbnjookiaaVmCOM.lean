/- CoordMany. -/
import Derived.Test.YtklmddbnjookiaaVmCB1
import Derived.Test.YtklmddbnjookiaaVmMI
set_option linter.unusedVariables false
set_option linter.unusedSimpArgs false
set_option linter.unusedSectionVars false
namespace Go.Proofs.Ytklmddbnjookiaa.V
open Go.Vm

section
variable {h : Heap} {i mi : Nat} {wait last : Int} {ans : List Ans} {ops : List (Int × Nat)} (t : CAt h i mi wait last ans ops)
include t
theorem coordRead_now (n : Nat) (need : Int) (hn : n < 8) (hneed : need ≤ 1) (key : List UInt8) (s : Sib)
    (hm : (⟨key, s⟩ : Ent).may = true) (hl : ops.length < 64) (hl0 : 0 ≤ last) (hl1 : last < 1000000000) (hf : findI ops (last + 1) = none) (hbig : ans.length ≤ 1000000) (hpl : ∀ x ∈ ops, x.2 < h.length) :
    ∃ e, (e = [] ∨ e = [mi]) ∧ callL E F.coord_Coord_Read [.ptr (some (i, 0)), .int .i64 n, .int .i64 need, .str key, s.v] h =
      some (.tup [.int .i64 (last + 1), .int .i64 0], hset (hset h i (coordO wait (last + 1) mi (ans ++ [⟨last + 1, 0, s⟩]))) mi (.map (mapI ops)), ⟨[i, mi], e, false⟩) := by
  obtain ⟨e, he, g⟩ := coordBegin_now (t.app [.cells s.c []]) n need hn hneed key s false hm hl hl0 hl1 hf hbig (fun x hx => by have := hpl x hx; simp; omega)
  have hil := hget_lt t.co
  have hml := hget_lt t.mp
  rw [V.hset_app hil, V.hset_app (by rw [hset_len]; exact hml)] at g
  have k2 : ∀ C M x, hget (hset (hset h i C) mi M ++ x) mi = some M := fun C M x => hgetS (by rw [hset_len]; exact hml) M x
  have k4 : Vm.Obj.lt h.length (.map (mapI ops)) = true := by
    rw [mapI_lt, List.all_eq_true]
    intro x hx
    simpa using hpl x hx
  have k5 : ∀ C M x, List.take h.length (hset (hset h i C) mi M ++ x) = hset (hset h i C) mi M := fun C M x => List.take_left' (by rw [hset_len, hset_len])
  have n9 : ¬ (h.length ≤ mi) := by omega
  simp only [Sib.v] at g
  rcases he with rfl | rfl
  · refine ⟨[], .inl rfl, callL_of rfl fn_coord_Coord_Read ?_⟩
    simp [-getElem?_pos, c_coord_Coord_Read, g, k2, k4, k5, n9, hil, hml]
    done
  · refine ⟨cnd (!Vm.Obj.lt 0 (.map (mapI ops))) [mi] [], by cases Vm.Obj.lt 0 (.map (mapI ops)) <;> simp, callL_of rfl fn_coord_Coord_Read ?_⟩
    simp [-getElem?_pos, c_coord_Coord_Read, g, k2, k4, k5, n9, hil, hml]
    done
end
def opK : OpS := ⟨[107], true, zeroSib, ans8.set 0 zeroSib, 0⟩
/-- So many have been begun. -/
structure ManyAt (b m : Nat) (h H : Heap) (ops : List (Int × Nat)) : Prop where
  at_ : CAt H (b + 1) b 5 m [] ops
  len : ops.length = m
  keys : ∀ x ∈ ops, 1 ≤ x.1 ∧ x.1 ≤ m
  ptr : ∀ x ∈ ops, x.2 < H.length
  one : 1 ≤ m → ∃ p q, b ≤ q ∧ findI ops 1 = some p ∧ OAt H p q opK 2 (no8.set 0 true)
  pre : H.take b = h
  low : b + 2 ≤ H.length
theorem findI_none {l : List (Int × Nat)} {n : Int} (h : ∀ x ∈ l, n ≠ x.1) : findI l n = none := by
  induction l with
  | nil => rfl
  | cons x l ih =>
    simp only [findI]
    rw [if_neg (h x (by simp))]
    exact ih fun y hy => h y (by simp [hy])
theorem findI_left {l : List (Int × Nat)} {n : Int} {p : Nat} (h : findI l n = some p) (y : List (Int × Nat)) : findI (l ++ y) n = some p := by
  induction l with
  | nil => cases h
  | cons x l ih =>
    simp only [List.cons_append, findI] at h ⊢
    by_cases hx : n = x.1
    · rw [if_pos hx] at h ⊢; exact h
    · rw [if_neg hx] at h ⊢; exact ih h
theorem many_step {b m : Nat} {h H : Heap} {ops : List (Int × Nat)} (y : ManyAt b m h H ops) : ManyAt b (m + 1) h (begun H (b + 1) b 5 m [] ops 0 2 [107] zeroSib true) (ops ++ [((m : Int) + 1, H.length + 3)]) := by
  have hl := begun_len (h := H) (i := b + 1) (mi := b) (wait := 5) (last := m) (ans := []) (ops := ops) 0 2 [107] zeroSib true
  refine ⟨begun_at y.at_ 0 2 [107] zeroSib true, by simp [y.len], fun x hx => ?_, fun x hx => ?_, fun _ => ?_, ?_, by have := y.low; omega⟩
  · rcases List.mem_append.1 hx with h1 | h1
    · have := y.keys x h1; omega
    · simp at h1; subst h1; simp; omega
  · rcases List.mem_append.1 hx with h1 | h1
    · have := y.ptr x h1; omega
    · simp at h1; subst h1; simp; omega
  · by_cases hm : 1 ≤ m
    · obtain ⟨p, q, h0, h1, h2⟩ := y.one hm
      exact ⟨p, q, h0, findI_left h1 _, begun_old y.at_ 0 2 [107] zeroSib true h2⟩
    · have hm0 : m = 0 := by omega
      subst hm0
      refine ⟨H.length + 3, H.length + 2, by have := y.low; omega, ?_, begun_op y.at_ 0 2 [107] zeroSib true zeroSib_may⟩
      rw [show (((0 : Nat) : Int) + 1) = 1 from rfl]
      exact findI_app (findI_none fun x hx e => by have := y.keys x hx; omega) _
  · rw [begun_take y.at_ 0 2 [107] zeroSib true (by omega) (by omega), y.pre]
theorem many_loop (h : Heap) (n : Nat) (hn : 60 ≤ n) (hn2 : n < 70) :
    ∃ r, loopRun (callL E) loopL h.length [0, 3, 15, 16] c_tattlerlaw22_CoordMany_l0 ⟨[(0, .int .i64 n), (3, .ptr (some (h.length + 1, 0))), (15, .int .i64 n), (16, .int .i64 0)], new0 h 5, .no⟩ = some r ∧
      ∃ H ops e, (e = [] ∨ e = [h.length]) ∧ ManyAt h.length (min n 64) h H ops ∧ r = (.exit 0, ⟨[(0, .int .i64 n), (3, .ptr (some (h.length + 1, 0))), (15, .int .i64 n), (16, .int .i64 n), (17, .bool false)], H, ⟨[], e, false⟩⟩) := by
  refine loop_inv0 (C := callL E) (fb := h.length) (live := [0, 3, 15, 16]) (c := c_tattlerlaw22_CoordMany_l0)
    (fun j s => ∃ H ops e, (e = [] ∨ e = [h.length]) ∧ ManyAt h.length (min j 64) h H ops ∧ s = ⟨[(0, .int .i64 n), (3, .ptr (some (h.length + 1, 0))), (15, .int .i64 n), (16, .int .i64 j)], H, ⟨[], e, false⟩⟩) _ n (fun j hj s hs => ?_) (fun s hs => ?_) ⟨new0 h 5, [], [], .inl rfl, ⟨new0_at h 5, rfl, fun x hx => (by cases hx), fun x hx => (by cases hx), fun hx => (by omega), (by simp [new0]), (by simp [new0])⟩, rfl⟩
  · obtain ⟨H, ops, e, he, y, rfl⟩ := hs
    left
    have hlt : (j : Int) < (n : Int) := by omega
    have h1 := i64_add1 (n := j) (by omega)
    have hz : zeroSib.v = .agg [.int .i64 0, .int .i64 0, .int .i64 0, .int .i64 0, .int .i64 0, .int .i64 0, .int .i64 0, .int .i64 0, .sl []] := rfl
    have hlow := y.low
    have l1 : h.length + 1 < H.length := by omega
    have l0 : h.length < H.length := by omega
    by_cases h64 : j < 64
    · rw [show min j 64 = j by omega] at y
      have g := coordWrite_ok y.at_ 0 2 (by omega) (by omega) [107] zeroSib kZero_may (by rw [y.len]; exact h64) (by omega) (by omega) (findI_none fun x hx e => by have := y.keys x hx; omega)
      have y2 := many_step y
      have bm := begun_mi y.at_ 0 2 [107] zeroSib true
      have b2 := begun_lt (h := H) (last := j) (ops := ops)
      have bl := begun_len (h := H) (i := h.length + 1) (mi := h.length) (wait := 5) (last := j) (ans := []) (ops := ops) 0 2 [107] zeroSib true
      rw [show min (j + 1) 64 = j + 1 by omega]
      generalize begun H (h.length + 1) h.length 5 j [] ops 0 2 [107] zeroSib true = H2 at *
      rw [hz] at g
      simp only [show ((0 : Nat) : Int) = 0 from rfl, show ((2 : Nat) : Int) = 2 from rfl] at g
      have hj64 : (j : Int) < 64 := by omega
      have hj64' : ¬ (64 : Int) ≤ (j : Int) := by omega
      have n1 : ¬ H.length ≤ h.length := by omega
      refine ⟨⟨[(0, .int .i64 n), (3, .ptr (some (h.length + 1, 0))), (15, .int .i64 n), (16, .int .i64 ((j + 1 : Nat) : Int))], H2, ⟨[], [h.length], false⟩⟩, ?_, H2, _, _, .inr rfl, y2, rfl⟩
      rcases he with rfl | rfl
      · rw [s_round]
        simp [-getElem?_pos, c_tattlerlaw22_CoordMany_l0, hlt, h1, g, hj64, hj64', bm, b2, n1, l0, l1]
        done
      · rw [s_round]
        simp [-getElem?_pos, c_tattlerlaw22_CoordMany_l0, hlt, h1, g, hj64, hj64', bm, b2, n1, l0, l1]
        done
    · rw [show min j 64 = 64 by omega] at y
      have g := coordWrite_full y.at_ 0 2 [107] zeroSib (by rw [y.len]; omega)
      rw [show min (j + 1) 64 = 64 by omega]
      rw [hz] at g
      have hj64 : ¬ (j : Int) < 64 := by omega
      have hj64' : (64 : Int) ≤ (j : Int) := by omega
      have tk : List.take H.length H = H := List.take_length
      refine ⟨⟨[(0, .int .i64 n), (3, .ptr (some (h.length + 1, 0))), (15, .int .i64 n), (16, .int .i64 ((j + 1 : Nat) : Int))], H, ⟨[], e, false⟩⟩, ?_, H, ops, e, he, y, rfl⟩
      rw [s_round]
      simp [-getElem?_pos, c_tattlerlaw22_CoordMany_l0, hlt, h1, g, hj64, hj64', l0, l1, tk]
      done
  · obtain ⟨H, ops, e, he, y, rfl⟩ := hs
    refine ⟨_, ?_, rfl, H, ops, e, he, y, rfl⟩
    rw [s_round]
    simp [c_tattlerlaw22_CoordMany_l0]
theorem mod10 (a : Int) : ∃ n : Nat, n < 10 ∧ IntKind.i64.wrap ((IntKind.u64.wrap a).tmod 10) = (n : Int) := modN a 10 (by omega) (by omega)
theorem delI_mem {l : List (Int × Nat)} {n : Int} {x : Int × Nat} (h : x ∈ delI l n) : x ∈ l := by
  induction l with
  | nil => cases h
  | cons y l ih =>
    simp only [delI] at h
    by_cases hx : n = y.1
    · rw [if_pos hx] at h; exact List.mem_cons_of_mem _ h
    · rw [if_neg hx] at h
      rcases List.mem_cons.1 h with h | h
      · rw [h]; simp
      · exact List.mem_cons_of_mem _ (ih h)
theorem delI_len {l : List (Int × Nat)} {n : Int} {p : Nat} (h : findI l n = some p) : (delI l n).length + 1 = l.length := by
  induction l with
  | nil => cases h
  | cons y l ih =>
    simp only [delI, findI] at h ⊢
    by_cases hx : n = y.1
    · rw [if_pos hx]; rfl
    · rw [if_neg hx] at h ⊢
      simp [ih h]
theorem CoordMany_eq (a : Int) (h : Heap) : callL E F.tattlerlaw22_CoordMany [.int .i64 a] h = some (.bool true, h, .no) := by
  refine callL_of rfl fn_tattlerlaw22_CoordMany ?_
  obtain ⟨n0, hn0, hmod⟩ := mod10 a
  have g1 := coordNew_eq 5 h
  rw [show h ++ [.map [], coordO (max 1 5) 0 h.length []] = new0 h 5 from rfl] at g1
  obtain ⟨n, hn⟩ : ∃ n, n = 60 + n0 := ⟨_, rfl⟩
  have hw : IntKind.i64.wrap (60 + (n0 : Int)) = (n : Int) := by rw [wrap_i64] <;> omega
  obtain ⟨r, lp, H, ops, e, he, y, rfl⟩ := many_loop h n (by omega) (by omega)
  obtain ⟨m, hm⟩ : ∃ m, m = min n 64 := ⟨_, rfl⟩
  rw [← hm] at y
  have hmn : (if (64 : Int) < (n : Int) then (64 : Int) else (n : Int)) = (m : Int) := by split <;> omega
  have g2 := coordLen_eq y.at_
  rw [y.len] at g2
  obtain ⟨p, q, hbq, hf, u⟩ := y.one (by omega)
  have g3 := coordAck_done y.at_ u (n := 1) (k := 3) (by omega) rfl hf rfl rfl (by simp)
  have hlow := y.low
  have t1 := y.at_.setq u (.cells (cntC 2 ((no8.set 0 true).set 3 true)) [])
  have k1 : (hset H q (.cells (cntC 2 ((no8.set 0 true).set 3 true)) [])).take h.length = h := by rw [take_hset_le hbq, y.pre]
  have l1 : (hset H q (.cells (cntC 2 ((no8.set 0 true).set 3 true)) [])).length = H.length := hset_len _ _ _
  generalize hset H q (.cells (cntC 2 ((no8.set 0 true).set 3 true)) []) = H1 at *
  have t2 : CAt (hset (hset H1 (h.length + 1) (coordO 5 m h.length ([] ++ [⟨1, 0, opK.s⟩]))) h.length (.map (mapI (delI ops 1)))) (h.length + 1) h.length 5 m ([] ++ [⟨1, 0, opK.s⟩]) (delI ops 1) := by
    refine ⟨?_, ?_⟩
    · rw [← List.append_nil (hset (hset H1 _ _) _ _), hgetS_ne (by rw [hset_len]; omega) (by omega), ← List.append_nil (hset H1 _ _)]
      exact hgetS (by omega) _ _
    · rw [← List.append_nil (hset (hset H1 _ _) _ _)]
      exact hgetS (by rw [hset_len]; omega) _ _
  have k2 : (hset (hset H1 (h.length + 1) (coordO 5 m h.length ([] ++ [⟨1, 0, opK.s⟩]))) h.length (.map (mapI (delI ops 1)))).take h.length = h := by rw [take_hset_le (by omega), take_hset_le (by omega), k1]
  have l2 : (hset (hset H1 (h.length + 1) (coordO 5 m h.length ([] ++ [⟨1, 0, opK.s⟩]))) h.length (.map (mapI (delI ops 1)))).length = H.length := by rw [hset_len, hset_len, l1]
  generalize hset (hset H1 (h.length + 1) (coordO 5 m h.length ([] ++ [⟨1, 0, opK.s⟩]))) h.length (.map (mapI (delI ops 1))) = H2 at *
  have hdl := delI_len hf
  obtain ⟨e2, he2, g4⟩ := coordRead_now t2 0 1 (by omega) (by omega) [107] zeroSib kZero_may (by have := y.len; omega) (by omega) (by omega) (findI_none fun x hx e => by have := y.keys x (delI_mem hx); omega) (by simp) (fun x hx => by have := y.ptr x (delI_mem hx); omega)
  have k3 : (hset (hset H2 (h.length + 1) (coordO 5 (↑m + 1) h.length ([] ++ [⟨1, 0, opK.s⟩] ++ [⟨↑m + 1, 0, zeroSib⟩]))) h.length (.map (mapI (delI ops 1)))).take h.length = h := by rw [take_hset_le (by omega), take_hset_le (by omega), k2]
  generalize hset (hset H2 (h.length + 1) (coordO 5 (↑m + 1) h.length ([] ++ [⟨1, 0, opK.s⟩] ++ [⟨↑m + 1, 0, zeroSib⟩]))) h.length (.map (mapI (delI ops 1))) = H3 at *
  have g5 := awake22_eq H3
  have hz : zeroSib.v = .agg [.int .i64 0, .int .i64 0, .int .i64 0, .int .i64 0, .int .i64 0, .int .i64 0, .int .i64 0, .int .i64 0, .sl []] := rfl
  rw [hz] at g4
  have hw1 : IntKind.i64.wrap ((m : Int) + 1) = (m : Int) + 1 := by rw [wrap_i64] <;> omega
  simp only [show ((0 : Nat) : Int) = 0 from rfl, show ((3 : Nat) : Int) = 3 from rfl] at g3 g4
  have nq : ¬ q < h.length := by omega
  rcases he with rfl | rfl <;> rcases he2 with rfl | rfl <;>
    simp [-getElem?_pos, c_tattlerlaw22_CoordMany, g1, hmod, hw, lp, g2, hmn, g3, g4, g5, k3, hw1, nq]
theorem tattlerlaw22_CoordMany_top {c0 : List V} (h0 : Ty.Has (.int .i64) c0) : ∃ h fl, callL E F.tattlerlaw22_CoordMany [Ty.el (.int .i64) c0] [] = some (.bool true, h, fl) := by
  obtain ⟨n, _, rfl⟩ := i64_dec h0
  exact ⟨_, _, CoordMany_eq n []⟩
end Go.Proofs.Ytklmddbnjookiaa.V
