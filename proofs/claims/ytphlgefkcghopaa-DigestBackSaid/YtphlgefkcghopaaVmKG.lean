/- What 'digest.Read' computes. -/
import Derived.Test.YtphlgefkcghopaaVmKF
import Derived.Test.YtphlgefkcghopaaVmG4
set_option linter.unusedVariables false
set_option linter.unusedSimpArgs false
namespace Go.Proofs.Ytphlgefkcghopaa.V
open Go.Vm

def encD (l : List Dot) : List UInt8 := l.flatMap fun d => encNum (u64 d.node) ++ encNum (zig d.n)
/-- A dot as it is read. -/
def capD (d : Dot) : Dot := ⟨(min (u64 d.node) 8 : Nat), d.n⟩
def dgC (k : List UInt8) (v : Vec) (x : V) : List V := .str k :: (v.c ++ [x])
def dgO (k : List UInt8) (v : Vec) (l : List Dot) : Vm.Obj := .cells (dgC k v (.own (l.map Dot.v))) [(9, 1000002)]
section
variable (k : List UInt8) (v : Vec) (x y : V)
@[simp] theorem dgC_len : (dgC k v x).length = 10 := by simp [dgC]
@[simp] theorem dgC9 : (dgC k v x)[9]? = some x := by simp [dgC]
@[simp] theorem dgC_lt (n : Nat) : V.ltL n (dgC k v x) = x.lt n := by simp [dgC, Sib.ltL_append]
@[simp] theorem own_lt (n : Nat) (xs : List V) : V.lt n (.own xs) = true := by simp [V.lt]
@[simp] theorem dgC_set9 : (dgC k v x).set 9 y = dgC k v y := by simp [dgC]
end
theorem digRead_round (rest : List UInt8) {d : Dot} (hd : d.Wf) (key : List UInt8) (v : Vec) (O2 O5 : Vm.Obj) (l : List Dot) (hl : l.length ≤ 100) (n j : Nat) (hj : j < n) (hn : n ≤ 100) (ok al : Bool) {h : Heap} {i : Nat} (hh : hget h i = some (Rd.o ⟨encNum (u64 d.node) ++ (encNum (zig d.n) ++ rest), 0⟩)) :
    roundV (callL E) loopL h.length [0, 2, 4, 6, 20, 21] c_digest_Read_l0 ⟨[(0, .ptr (some (i, 0))), (2, .ptr (some (h.length, 0))), (4, .ptr (some (h.length + 1, 0))), (6, .bool ok), (20, .int .i64 n), (21, .int .i64 j)], h ++ [O2, dgO key v l, O5], ⟨[i], [], al⟩⟩ =
      some (.normal, ⟨[(0, .ptr (some (i, 0))), (2, .ptr (some (h.length, 0))), (4, .ptr (some (h.length + 1, 0))), (6, .bool ok), (20, .int .i64 n), (21, .int .i64 ((j + 1 : Nat) : Int))], hset h i (Rd.o ⟨rest, 0⟩) ++ [O2, dgO key v (l ++ [capD d]), O5], ⟨[i], [], true⟩⟩) := by
  have hil := hget_lt hh
  have hlt : (j : Int) < (n : Int) := by omega
  have h1 := i64_add1 (n := j) (by omega)
  have g1 := rdNum_eq (u64_lt d.node) (encNum (zig d.n) ++ rest) (h := h ++ [O2, dgO key v l, O5]) (i := i) (by rw [hget_app hil]; exact hh)
  rw [hset_app hil] at g1
  unfold dgO at *
  rw [List.map_append, List.map_singleton]
  have hK := hget_hset (q := Rd.o ⟨encNum (zig d.n) ++ rest, 0⟩) hh
  have hKl : (hset h i (Rd.o ⟨encNum (zig d.n) ++ rest, 0⟩)).length = h.length := hset_len _ _ _
  have hKK : hset h i (Rd.o ⟨rest, 0⟩) = hset (hset h i (Rd.o ⟨encNum (zig d.n) ++ rest, 0⟩)) i (Rd.o ⟨rest, 0⟩) := by rw [hset_hset]
  rw [hKK]
  generalize hset h i (Rd.o ⟨encNum (zig d.n) ++ rest, 0⟩) = K at *
  have hiK : i < K.length := by omega
  have g2 : ∀ X Y, callL E F.wire_Reader_Int [.ptr (some (i, 0))] (K ++ [O2, .cells (dgC key v X) [], O5, Y]) = some (.int .i64 d.n, hset K i (Rd.o ⟨rest, 0⟩) ++ [O2, .cells (dgC key v X) [], O5, Y], .w [i]) := fun X Y => by
    have := rdInt_eq hd.2 rest (h := K ++ [O2, .cells (dgC key v X) [], O5, Y]) (i := i) (by rw [hget_app hiK]; exact hK)
    rw [hset_app hiK] at this
    exact this
  have hhl : h.length = K.length := hKl.symm
  have hiK3 : i < K.length + 3 := by omega
  have e8 : IntKind.wrap .i64 (if (8 : Int) < (u64 d.node : Int) then 8 else (u64 d.node : Int)) = ((min (u64 d.node) 8 : Nat) : Int) := by
    split
    · rw [wrap_i64] <;> omega
    · rw [wrap_i64] <;> omega
  have hcv : (capD d).v = .agg [.int .i64 ((min (u64 d.node) 8 : Nat) : Int), .int .i64 d.n] := rfl
  have htk : ∀ a b c, List.take (K.length + 3) (hset K i (Rd.o ⟨rest, 0⟩) ++ (a :: b :: c :: [.dead, .dead])) = hset K i (Rd.o ⟨rest, 0⟩) ++ [a, b, c] := fun a b c => by
    rw [List.take_append, hset_len, List.take_of_length_le (by rw [hset_len]; omega)]
    congr 1
    rw [show K.length + 3 - K.length = 3 by omega]
    rfl
  rw [hcv]
  generalize ((min (u64 d.node) 8 : Nat) : Int) = m at *
  rw [hhl, s_round]
  by_cases hl0 : l = []
  · subst hl0
    simp only [List.map_nil] at *
    simp [-getElem?_pos, c_digest_Read_l0, hlt, hj, g1, g2, h1, hiK, hiK3, hset_len, hhl, e8, chunks, htk]
    done
  · have hLl : (l.map Dot.v).length = l.length := by simp
    have hL : l.map Dot.v ≠ [] := by simpa using hl0
    have hF : (l.map Dot.v).flatMap V.flat = l.flatMap Dot.c := by rw [List.flatMap_map]; rfl
    have hFl : (l.flatMap Dot.c).length = l.length * 2 := flat_len (z := 2) (fun x => rfl) l
    have hFc : chunks true 2 (l.length + 1) (l.flatMap Dot.c ++ [.int .i64 m, .int .i64 d.n]) = l.map Dot.v ++ [.agg [.int .i64 m, .int .i64 d.n]] := by
      have := flat_chunks (c := Dot.c) (z := 2) (fun x => rfl) (by omega) (l ++ [⟨m, d.n⟩])
      simp only [List.flatMap_append, List.flatMap_cons, List.flatMap_nil, List.append_nil, List.length_append, List.length_singleton, List.map_append, List.map_cons, List.map_nil] at this
      exact this
    have hFp : (l.flatMap Dot.c).all V.pureCell = true := flat_pure (c := Dot.c) (fun x => rfl) l
    generalize l.map Dot.v = L at *
    generalize l.flatMap Dot.c = FL at *
    have hFt : List.take (l.length * 2) FL = FL := List.take_of_length_le (by omega)
    have hFt2 : List.take ((l.length + 1) * 2) (FL ++ [.int .i64 m, .int .i64 d.n]) = FL ++ [.int .i64 m, .int .i64 d.n] := List.take_of_length_le (by simp; omega)
    have hF2 : (l.length + 1) * 2 ≤ l.length * 2 + 2 := by omega
    have hll : (l.length + 1) * 16 ≤ 140737488355328 := by omega
    simp [-getElem?_pos, -List.length_flatMap, c_digest_Read_l0, hlt, hj, g1, g2, h1, hiK, hiK3, hset_len, hhl, e8, htk, hL, hLl, hF, hFl, hFc, hFp, hFt, hFt2, hF2, hll]
    done
theorem digRead_loop (key : List UInt8) (v : Vec) (O2 O5 : Vm.Obj) (ds : List Dot) (hds : ∀ d ∈ ds, d.Wf) (hl : ds.length ≤ 16) (ok : Bool) {h : Heap} {i : Nat} (hh : hget h i = some (Rd.o ⟨encD ds, 0⟩)) :
    loopRun (callL E) loopL h.length [0, 2, 4, 6, 20, 21] c_digest_Read_l0 ⟨[(0, .ptr (some (i, 0))), (2, .ptr (some (h.length, 0))), (4, .ptr (some (h.length + 1, 0))), (6, .bool ok), (20, .int .i64 ds.length), (21, .int .i64 0)], h ++ [O2, dgO key v [], O5], ⟨[i], [], false⟩⟩ =
      some (.exit 0, ⟨[(0, .ptr (some (i, 0))), (2, .ptr (some (h.length, 0))), (4, .ptr (some (h.length + 1, 0))), (6, .bool ok), (20, .int .i64 ds.length), (21, .int .i64 ds.length), (22, .bool false)], hset h i (Rd.o ⟨[], 0⟩) ++ [O2, dgO key v (ds.map capD), O5], ⟨[i], [], decide (0 < ds.length)⟩⟩) := by
  have key := loop_to (C := callL E) (fb := h.length) (live := [0, 2, 4, 6, 20, 21]) (c := c_digest_Read_l0)
    (fun j => ⟨[(0, .ptr (some (i, 0))), (2, .ptr (some (h.length, 0))), (4, .ptr (some (h.length + 1, 0))), (6, .bool ok), (20, .int .i64 ds.length), (21, .int .i64 j)], hset h i (Rd.o ⟨encD (ds.drop j), 0⟩) ++ [O2, dgO key v ((ds.take j).map capD), O5], ⟨[i], [], decide (0 < j)⟩⟩) ds.length
    (r := (.exit 0, ⟨[(0, .ptr (some (i, 0))), (2, .ptr (some (h.length, 0))), (4, .ptr (some (h.length + 1, 0))), (6, .bool ok), (20, .int .i64 ds.length), (21, .int .i64 ds.length), (22, .bool false)], hset h i (Rd.o ⟨[], 0⟩) ++ [O2, dgO key v (ds.map capD), O5], ⟨[i], [], decide (0 < ds.length)⟩⟩)) (fun j hj => ?_) ?_ rfl
  · rw [show ((0 : Nat) : Int) = 0 from rfl, List.drop_zero, List.take_zero, hset_same hh] at key
    exact key
  · obtain ⟨d, hx, hd, hm⟩ := get_of_lt (l := ds) (i := j) hj
    have hd' : encD (ds.drop j) = encNum (u64 d.node) ++ (encNum (zig d.n) ++ encD (ds.drop (j + 1))) := by rw [hd]; simp [encD]
    have h1 := digRead_round (encD (ds.drop (j + 1))) (hds d hm) key v O2 O5 ((ds.take j).map capD) (by simp; omega) ds.length j hj (by omega) ok (decide (0 < j)) (h := hset h i (Rd.o ⟨encD (ds.drop j), 0⟩)) (i := i) (by rw [hget_hset hh, hd'])
    rw [hset_len, hset_hset] at h1
    rw [h1, List.take_add_one, hx]
    simp
  · rw [s_round, List.drop_of_length_le (by omega), List.take_of_length_le (by omega)]
    simp [c_digest_Read_l0, encD]
theorem digRead_none (a b c : V) (ok : Bool) (X : Heap) (fl : Fl) (fb : Nat) : loopRun (callL E) loopL fb [0, 2, 4, 6, 20, 21] c_digest_Read_l0 ⟨[(0, a), (2, b), (4, c), (6, .bool ok), (20, .int .i64 0), (21, .int .i64 0)], X, fl⟩ =
    some (.exit 0, ⟨[(0, a), (2, b), (4, c), (6, .bool ok), (20, .int .i64 0), (21, .int .i64 0), (22, .bool false)], X, fl⟩) := by
  obtain ⟨w, e, al⟩ := fl
  refine loop_exit ?_
  rw [s_round]
  simp [c_digest_Read_l0]
def noDig : Dig := ⟨[], zeroVec, []⟩
theorem rdText_err (r : Rd) (he : r.err ≠ 0) (most : Int) {h : Heap} {i : Nat} (hh : hget h i = some r.o) :
    callL E F.wire_Reader_Text [.ptr (some (i, 0)), .int .i64 most] h = some (bytesV [], h, .no) := by
  refine callL_of rfl fn_wire_Reader_Text ?_
  have g1 := rdCount_err r he most hh
  have g2 := rdOk_eq _ hh
  rw [decide_eq_false he] at g2
  simp [-getElem?_pos, c_wire_Reader_Text, g1, g2, bytesV]
theorem rdByte_empty {h : Heap} {i : Nat} (hh : hget h i = some (Rd.o ⟨[], 0⟩)) : callL E F.wire_Reader_byte [.ptr (some (i, 0))] h = some (.tup [.int .u8 0, .bool false], hset h i (Rd.o ⟨[], 2⟩), .w [i]) := by
  refine callL_of rfl fn_wire_Reader_byte ?_
  have hi := hget_lt hh
  have g1 := rdOk_eq _ hh
  have g2 := rdFail_eq _ 2 hh
  simp only [decide_true] at g1
  unfold Rd.o Rd.c bytesV at *
  simp [-getElem?_pos, c_wire_Reader_byte, hh, hi, g1, g2]
  done
theorem digRead_A (r : Rd) (e : Int) (he : e ≠ 0) (kb : List UInt8) {h : Heap} {i : Nat} (hh : hget h i = some r.o)
    (hT : ∀ h', hget h' i = some r.o → callL E F.wire_Reader_Text [.ptr (some (i, 0)), .int .i64 32] h' = some (bytesV kb, hset h' i (Rd.o ⟨[], e⟩), .w [i])) :
    callL E F.digest_Read [.ptr (some (i, 0))] h = some (.tup [noDig.v, .bool false], hset h i (Rd.o ⟨[], e⟩), ⟨[i], [], true⟩) := by
  refine callL_of rfl fn_digest_Read ?_
  have hil := hget_lt hh
  have t1 := fun l => hT (h ++ l) (by rw [hget_app hil]; exact hh)
  have hK := hget_hset (q := Rd.o ⟨[], e⟩) hh
  have hKl : (hset h i (Rd.o ⟨[], e⟩)).length = h.length := hset_len _ _ _
  have t1 : ∀ l, callL E F.wire_Reader_Text [.ptr (some (i, 0)), .int .i64 32] (h ++ l) = some (bytesV kb, hset h i (Rd.o ⟨[], e⟩) ++ l, .w [i]) := fun l => by rw [t1 l, hset_app hil]
  generalize hset h i (Rd.o ⟨[], e⟩) = K at *
  have hhl : h.length = K.length := hKl.symm
  have hiK : i < K.length := by omega
  have v1 : ∀ l, callL E F.vector_Read [.ptr (some (i, 0))] (K ++ l) = some (.tup [zeroVec.v, .bool false], K ++ l, .no) := fun l => vecRead_err e he (by rw [hget_app hiK]; exact hK)
  have c1 : ∀ l, callL E F.wire_Reader_Count [.ptr (some (i, 0)), .int .i64 16] (K ++ l) = some (.int .i64 0, K ++ l, .no) := fun l => rdCount_err ⟨[], e⟩ he 16 (by rw [hget_app hiK]; exact hK)
  unfold bytesV at t1
  have n1 := digRead_none (.ptr (some (i, 0))) (.ptr (some (K.length, 0))) (.ptr (some (K.length + 1, 0))) false
  simp [-getElem?_pos, c_digest_Read, t1, v1, c1, hhl, hiK, n1, chunks, noDig, Dig.c]
  rfl
theorem hgetK {h : Heap} (K : Heap) (l : List Vm.Obj) (k : Nat) (hK : K.length = h.length) : hget (K ++ l) (h.length + k) = l[k]? := by
  unfold hget
  rw [List.getElem?_append_right (by omega), show h.length + k - K.length = k by omega]
theorem hsetK {h : Heap} (K : Heap) (l : List Vm.Obj) (k : Nat) (o : Vm.Obj) (hK : K.length = h.length) : hset (K ++ l) (h.length + k) o = K ++ l.set k o := by
  unfold hset
  rw [List.set_append_right _ _ (by omega), show h.length + k - K.length = k by omega]
def encDig (d : Dig) : List UInt8 := encNum d.key.length ++ (d.key ++ (encV d.seen.l ++ (encNum d.dots.length ++ encD d.dots)))
theorem digRead_B (d : Dig) (hs : d.Small) (hk : d.key.length ≤ 32) (hd : 16 < d.dots.length) {h : Heap} {i : Nat} (hh : hget h i = some (Rd.o ⟨encDig d, 0⟩)) :
    callL E F.digest_Read [.ptr (some (i, 0))] h = some (.tup [noDig.v, .bool false], hset h i (Rd.o ⟨[], 4⟩), ⟨[i], [], true⟩) := by
  refine callL_of rfl fn_digest_Read ?_
  have hil := hget_lt hh
  have hk' : ¬ 32 < d.key.length := by omega
  obtain ⟨kb, v, ds⟩ := d
  obtain ⟨q1, q2, q3, q4⟩ := hs
  simp only [encDig] at *
  have t1 : ∀ l, callL E F.wire_Reader_Text [.ptr (some (i, 0)), .int .i64 32] (h ++ l) = some (bytesV kb, hset h i (Rd.o ⟨encV v.l ++ (encNum ds.length ++ encD ds), 0⟩) ++ l, .w [i]) := fun l => by
    have := rdText_eq (x := kb) (most := 32) (by omega) (by omega) (encV v.l ++ (encNum ds.length ++ encD ds)) (h := h ++ l) (i := i) (by rw [hget_app hil]; exact hh)
    rw [if_neg hk', if_neg hk', hset_app hil] at this
    exact this
  have hK1 := hget_hset (q := Rd.o ⟨encV v.l ++ (encNum ds.length ++ encD ds), 0⟩) hh
  have hK1l : (hset h i (Rd.o ⟨encV v.l ++ (encNum ds.length ++ encD ds), 0⟩)).length = h.length := hset_len _ _ _
  have e1 : ∀ o, hset h i o = hset (hset h i (Rd.o ⟨encV v.l ++ (encNum ds.length ++ encD ds), 0⟩)) i o := fun o => by rw [hset_hset]
  rw [e1]
  clear e1
  generalize hset h i (Rd.o ⟨encV v.l ++ (encNum ds.length ++ encD ds), 0⟩) = K1 at *
  have v1 : ∀ l, callL E F.vector_Read [.ptr (some (i, 0))] (K1 ++ l) = some (.tup [(if v.may = true then v else zeroVec).v, .bool v.may], hset K1 i (Rd.o ⟨encNum ds.length ++ encD ds, 0⟩) ++ l, .w [i]) := fun l => by
    have := vecRead_eq q2 (encNum ds.length ++ encD ds) (h := K1 ++ l) (i := i) (by rw [hget_app (by omega)]; exact hK1)
    rw [hset_app (by omega)] at this
    exact this
  have hK2 := hget_hset (q := Rd.o ⟨encNum ds.length ++ encD ds, 0⟩) hK1
  have hK2l : (hset K1 i (Rd.o ⟨encNum ds.length ++ encD ds, 0⟩)).length = h.length := (hset_len _ _ _).trans hK1l
  have e2 : ∀ o, hset K1 i o = hset (hset K1 i (Rd.o ⟨encNum ds.length ++ encD ds, 0⟩)) i o := fun o => by rw [hset_hset]
  rw [e2]
  clear e2
  generalize hset K1 i (Rd.o ⟨encNum ds.length ++ encD ds, 0⟩) = K2 at *
  have c1 : ∀ l, callL E F.wire_Reader_Count [.ptr (some (i, 0)), .int .i64 16] (K2 ++ l) = some (.int .i64 0, hset K2 i (Rd.o ⟨[], 4⟩) ++ l, .w [i]) := fun l => by
    have := rdCount_eq (n := ds.length) (most := 16) (by omega) (by omega) (encD ds) (h := K2 ++ l) (i := i) (by rw [hget_app (by omega)]; exact hK2)
    rw [if_pos hd, if_pos hd, hset_app (by omega)] at this
    exact this
  have hK3 := hget_hset (q := Rd.o ⟨[], 4⟩) hK2
  have hK3l : (hset K2 i (Rd.o ⟨[], 4⟩)).length = h.length := (hset_len _ _ _).trans hK2l
  generalize hset K2 i (Rd.o ⟨[], 4⟩) = K3 at *
  have e1 : ∀ l, callL E F.wire_Reader_End [.ptr (some (i, 0))] (K3 ++ l) = some (.int .i64 4, K3 ++ l, .no) := fun l => rdEnd_eq ⟨[], 4⟩ (by rw [hget_app (by omega)]; exact hK3)
  have l1 : ∀ l, callL E F.wire_Reader_Left [.ptr (some (i, 0))] (K3 ++ l) = some (.int .i64 0, K3 ++ l, .no) := fun l => rdLeft_eq ⟨[], 4⟩ (by rw [hget_app (by omega)]; exact hK3)
  unfold bytesV at t1
  have G := hgetK (h := h)
  have G0 := fun K l hK => hgetK (h := h) K l 0 hK
  have S := hsetK (h := h)
  have S0 := fun K l o hK => hsetK (h := h) K l 0 o hK
  simp only [Nat.add_zero] at G0 S0
  have n1 := digRead_none (.ptr (some (i, 0))) (.ptr (some (h.length, 0))) (.ptr (some (h.length + 1, 0)))
  have hvc : (zeroVec.c ++ [V.sl []] : List V) = [.int .i64 0, .int .i64 0, .int .i64 0, .int .i64 0, .int .i64 0, .int .i64 0, .int .i64 0, .int .i64 0, .sl []] := rfl
  cases hm : v.may with
  | false =>
    rw [hm] at v1
    simp [-getElem?_pos, c_digest_Read, t1, v1, c1, hK1l, hK2l, hK3l, hil, n1, chunks, noDig, Dig.c, G, G0, S, S0, hvc]
    done
  | true =>
    rw [hm] at v1
    simp [-getElem?_pos, c_digest_Read, t1, v1, c1, e1, l1, hK1l, hK2l, hK3l, hil, n1, chunks, noDig, Dig.c, G, G0, S, S0, hvc]
    done
def capDig (d : Dig) : Dig := ⟨d.key, d.seen, d.dots.map capD⟩
theorem digRead_C (d : Dig) (hs : d.Small) (hk : d.key.length ≤ 32) (hd : d.dots.length ≤ 16) {h : Heap} {i : Nat} (hh : hget h i = some (Rd.o ⟨encDig d, 0⟩)) :
    callL E F.digest_Read [.ptr (some (i, 0))] h = some (.tup [(if (d.seen.may && (capDig d).may) = true then capDig d else noDig).v, .bool (d.seen.may && (capDig d).may)], hset h i (Rd.o ⟨[], 0⟩), ⟨[i], [], true⟩) := by
  refine callL_of rfl fn_digest_Read ?_
  have hil := hget_lt hh
  have hk' : ¬ 32 < d.key.length := by omega
  have hcap : ∀ (k : List UInt8) (v : Vec) (l : List Dot), capDig ⟨k, v, l⟩ = ⟨k, v, l.map capD⟩ := fun _ _ _ => rfl
  obtain ⟨kb, v, ds⟩ := d
  rw [hcap]
  obtain ⟨q1, q2, q3, q4⟩ := hs
  simp only [encDig] at *
  have t1 : ∀ l, callL E F.wire_Reader_Text [.ptr (some (i, 0)), .int .i64 32] (h ++ l) = some (bytesV kb, hset h i (Rd.o ⟨encV v.l ++ (encNum ds.length ++ encD ds), 0⟩) ++ l, .w [i]) := fun l => by
    have := rdText_eq (x := kb) (most := 32) (by omega) (by omega) (encV v.l ++ (encNum ds.length ++ encD ds)) (h := h ++ l) (i := i) (by rw [hget_app hil]; exact hh)
    rw [if_neg hk', if_neg hk', hset_app hil] at this
    exact this
  have hK1 := hget_hset (q := Rd.o ⟨encV v.l ++ (encNum ds.length ++ encD ds), 0⟩) hh
  have hK1l : (hset h i (Rd.o ⟨encV v.l ++ (encNum ds.length ++ encD ds), 0⟩)).length = h.length := hset_len _ _ _
  have e1 : ∀ o, hset h i o = hset (hset h i (Rd.o ⟨encV v.l ++ (encNum ds.length ++ encD ds), 0⟩)) i o := fun o => by rw [hset_hset]
  rw [e1]
  clear e1
  generalize hset h i (Rd.o ⟨encV v.l ++ (encNum ds.length ++ encD ds), 0⟩) = K1 at *
  have v1 : ∀ l, callL E F.vector_Read [.ptr (some (i, 0))] (K1 ++ l) = some (.tup [(if v.may = true then v else zeroVec).v, .bool v.may], hset K1 i (Rd.o ⟨encNum ds.length ++ encD ds, 0⟩) ++ l, .w [i]) := fun l => by
    have := vecRead_eq q2 (encNum ds.length ++ encD ds) (h := K1 ++ l) (i := i) (by rw [hget_app (by omega)]; exact hK1)
    rw [hset_app (by omega)] at this
    exact this
  have hK2 := hget_hset (q := Rd.o ⟨encNum ds.length ++ encD ds, 0⟩) hK1
  have hK2l : (hset K1 i (Rd.o ⟨encNum ds.length ++ encD ds, 0⟩)).length = h.length := (hset_len _ _ _).trans hK1l
  have e2 : ∀ o, hset K1 i o = hset (hset K1 i (Rd.o ⟨encNum ds.length ++ encD ds, 0⟩)) i o := fun o => by rw [hset_hset]
  rw [e2]
  clear e2
  generalize hset K1 i (Rd.o ⟨encNum ds.length ++ encD ds, 0⟩) = K2 at *
  have c1 : ∀ l, callL E F.wire_Reader_Count [.ptr (some (i, 0)), .int .i64 16] (K2 ++ l) = some (.int .i64 ds.length, hset K2 i (Rd.o ⟨encD ds, 0⟩) ++ l, .w [i]) := fun l => by
    have := rdCount_eq (n := ds.length) (most := 16) (by omega) (by omega) (encD ds) (h := K2 ++ l) (i := i) (by rw [hget_app (by omega)]; exact hK2)
    rw [if_neg (by omega), if_neg (by omega), hset_app (by omega)] at this
    exact this
  have hK3 := hget_hset (q := Rd.o ⟨encD ds, 0⟩) hK2
  have hK3l : (hset K2 i (Rd.o ⟨encD ds, 0⟩)).length = h.length := (hset_len _ _ _).trans hK2l
  have e3 : ∀ o, hset K2 i o = hset (hset K2 i (Rd.o ⟨encD ds, 0⟩)) i o := fun o => by rw [hset_hset]
  rw [e3]
  clear e3
  generalize hset K2 i (Rd.o ⟨encD ds, 0⟩) = K3 at *
  have lp : ∀ (w : Vec) (O2 O5 : Vm.Obj) (ok : Bool), loopRun (callL E) loopL h.length [0, 2, 4, 6, 20, 21] c_digest_Read_l0 ⟨[(0, .ptr (some (i, 0))), (2, .ptr (some (h.length, 0))), (4, .ptr (some (h.length + 1, 0))), (6, .bool ok), (20, .int .i64 ds.length), (21, .int .i64 0)], K3 ++ [O2, .cells (.str kb :: (w.c ++ [.own []])) [(9, 1000002)], O5], ⟨[i], [], false⟩⟩ =
      some (.exit 0, ⟨[(0, .ptr (some (i, 0))), (2, .ptr (some (h.length, 0))), (4, .ptr (some (h.length + 1, 0))), (6, .bool ok), (20, .int .i64 ds.length), (21, .int .i64 ds.length), (22, .bool false)], hset K3 i (Rd.o ⟨[], 0⟩) ++ [O2, .cells (.str kb :: (w.c ++ [.own ((ds.map capD).map Dot.v)])) [(9, 1000002)], O5], ⟨[i], [], decide (0 < ds.length)⟩⟩) := fun w O2 O5 ok => by
    have := digRead_loop kb w O2 O5 ds q4 hd ok hK3
    rw [hK3l] at this
    exact this
  have hK4 := hget_hset (q := Rd.o ⟨[], 0⟩) hK3
  have hK4l : (hset K3 i (Rd.o ⟨[], 0⟩)).length = h.length := (hset_len _ _ _).trans hK3l
  generalize hset K3 i (Rd.o ⟨[], 0⟩) = K4 at *
  have e1 : ∀ l, callL E F.wire_Reader_End [.ptr (some (i, 0))] (K4 ++ l) = some (.int .i64 0, K4 ++ l, .no) := fun l => rdEnd_eq ⟨[], 0⟩ (by rw [hget_app (by omega)]; exact hK4)
  have l1 : ∀ l, callL E F.wire_Reader_Left [.ptr (some (i, 0))] (K4 ++ l) = some (.int .i64 0, K4 ++ l, .no) := fun l => rdLeft_eq ⟨[], 0⟩ (by rw [hget_app (by omega)]; exact hK4)
  have hF : ((ds.map capD).map Dot.v).flatMap V.flat = (ds.map capD).flatMap Dot.c := by rw [List.flatMap_map]; rfl
  have hFl : ((ds.map capD).flatMap Dot.c).length = ds.length * 2 := by rw [flat_len (z := 2) (fun x => rfl)]; simp
  have hFc : chunks true 2 ds.length ((ds.map capD).flatMap Dot.c) = (ds.map capD).map Dot.v := by
    have := flat_chunks (c := Dot.c) (z := 2) (fun x => rfl) (by omega) (ds.map capD)
    rw [List.length_map] at this
    exact this
  have hFp : ((ds.map capD).flatMap Dot.c).all V.pureCell = true := flat_pure (c := Dot.c) (fun x => rfl) _
  have hFt : List.take (ds.length * 2) ((ds.map capD).flatMap Dot.c) = (ds.map capD).flatMap Dot.c := List.take_of_length_le (by omega)
  have hLl : ((ds.map capD).map Dot.v).length = ds.length := by simp
  have hLe : (ds.map capD).map Dot.v = [] ↔ ds = [] := by simp
  have m1 : ∀ l, callL E F.digest_May [.agg (.str kb :: (v.c ++ [.sl ((ds.map capD).map Dot.v)]))] (K4 ++ l) = some (.bool (Dig.may ⟨kb, v, ds.map capD⟩), K4 ++ l, .no) := fun l => digMay_eq ⟨kb, v, ds.map capD⟩ (K4 ++ l)
  have hDc : Dig.c ⟨kb, v, ds.map capD⟩ = .str kb :: (v.c ++ [.sl ((ds.map capD).map Dot.v)]) := rfl
  generalize Dig.may ⟨kb, v, ds.map capD⟩ = M at *
  generalize (ds.map capD).map Dot.v = L at *
  generalize (ds.map capD).flatMap Dot.c = FL at *
  unfold bytesV at t1
  have G := hgetK (h := h)
  have G0 := fun K l hK => hgetK (h := h) K l 0 hK
  have S := hsetK (h := h)
  have S0 := fun K l o hK => hsetK (h := h) K l 0 o hK
  simp only [Nat.add_zero] at G0 S0
  have n1 := digRead_none (.ptr (some (i, 0))) (.ptr (some (h.length, 0))) (.ptr (some (h.length + 1, 0)))
  have hvc : (zeroVec.c ++ [V.sl []] : List V) = [.int .i64 0, .int .i64 0, .int .i64 0, .int .i64 0, .int .i64 0, .int .i64 0, .int .i64 0, .int .i64 0, .sl []] := rfl
  have hlt9 : ∀ n l, V.ltL n (v.c ++ [V.sl l]) = true := fun n l => by simp [Sib.ltL_append]
  have ht9 : ∀ x, List.take 9 (v.c ++ [x]) = v.c ++ [x] := fun x => List.take_of_length_le (by simp)
  have hnd : noDig.c = [.str [], .int .i64 0, .int .i64 0, .int .i64 0, .int .i64 0, .int .i64 0, .int .i64 0, .int .i64 0, .int .i64 0, .sl []] := rfl
  have hz : zeroVec.c = [.int .i64 0, .int .i64 0, .int .i64 0, .int .i64 0, .int .i64 0, .int .i64 0, .int .i64 0, .int .i64 0] := rfl
  by_cases hds : ds = []
  · subst hds
    obtain rfl := hLe.2 rfl
    simp only [List.length_nil, List.map_nil] at *
    simp at lp
    cases hm : v.may with
    | false =>
      rw [hm] at v1
      simp [-getElem?_pos, c_digest_Read, t1, v1, c1, hK1l, hK2l, hK3l, hK4l, hil, lp, chunks, hnd, hDc, ht9, hlt9, Dig.v, G, G0, S, S0, hvc]
      done
    | true =>
      rw [hm] at v1
      cases M <;> simp [-getElem?_pos, c_digest_Read, t1, v1, c1, e1, l1, m1, hK1l, hK2l, hK3l, hK4l, hil, lp, chunks, hnd, hDc, ht9, hlt9, Dig.v, G, G0, S, S0, hvc]
      done
  · have hds0 : 0 < ds.length := List.length_pos_iff.2 hds
    have hL0 : L ≠ [] := fun e => hds (hLe.1 e)
    cases hm : v.may with
    | false =>
      rw [hm] at v1
      simp [-getElem?_pos, -List.length_flatMap, c_digest_Read, t1, v1, c1, hK1l, hK2l, hK3l, hK4l, hil, lp, chunks, hnd, hDc, ht9, hlt9, Dig.v, G, G0, S, S0, hvc, hds, hds0, hL0, hF, hFl, hFc, hFp, hFt, hLl]
      done
    | true =>
      rw [hm] at v1
      cases M <;> simp [-getElem?_pos, -List.length_flatMap, c_digest_Read, t1, v1, c1, e1, l1, m1, hK1l, hK2l, hK3l, hK4l, hil, lp, chunks, hnd, hDc, ht9, hlt9, Dig.v, G, G0, S, S0, hvc, hds, hds0, hL0, hF, hFl, hFc, hFp, hFt, hLl]
      done
end Go.Proofs.Ytphlgefkcghopaa.V
