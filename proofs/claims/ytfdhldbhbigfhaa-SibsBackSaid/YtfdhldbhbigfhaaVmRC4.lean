/- What 'sibs.Read' computes of any bytes. -/
import Derived.Test.YtfdhldbhbigfhaaVmRC3
import Derived.Test.YtfdhldbhbigfhaaVmSA
import Derived.Test.YtfdhldbhbigfhaaVmSH
set_option linter.unusedVariables false
set_option linter.unusedSimpArgs false
namespace Go.Proofs.Ytfdhldbhbigfhaa.V
open Go.Vm

theorem hget_hset2 {h : Heap} {i : Nat} {o : Vm.Obj} (hil : i < h.length) : hget (hset h i o) i = some o := by simp [hget, hset, hil]
section
variable {h : Heap} {i : Nat} (hil : i < h.length)
include hil
theorem num_at (r : Rd) (X : Heap) : callL E F.wire_Reader_Num [.ptr (some (i, 0))] (hset h i r.o ++ X) = some (.int .u64 (readNum r).1, hset h i (readNum r).2.o ++ X, .w (wsR r i)) := by
  have g := rdNum_all r (h := hset h i r.o ++ X) (i := i) (by rw [hget_app (by rw [hset_len]; exact hil)]; exact hget_hset2 hil)
  rw [hset_app (by rw [hset_len]; exact hil), hset_hset] at g
  exact g
theorem int_at (r : Rd) (X : Heap) : callL E F.wire_Reader_Int [.ptr (some (i, 0))] (hset h i r.o ++ X) = some (.int .i64 (readInt r).1, hset h i (readInt r).2.o ++ X, .w (wsR r i)) := by
  have g := rdInt_all r (h := hset h i r.o ++ X) (i := i) (by rw [hget_app (by rw [hset_len]; exact hil)]; exact hget_hset2 hil)
  rw [hset_app (by rw [hset_len]; exact hil), hset_hset] at g
  exact g
theorem flag_at (r : Rd) (X : Heap) : callL E F.wire_Reader_Flag [.ptr (some (i, 0))] (hset h i r.o ++ X) = some (.bool (readFlag r).1, hset h i (readFlag r).2.o ++ X, .w (wsR r i)) := by
  have g := rdFlag_all r (h := hset h i r.o ++ X) (i := i) (by rw [hget_app (by rw [hset_len]; exact hil)]; exact hget_hset2 hil)
  rw [hset_app (by rw [hset_len]; exact hil), hset_hset] at g
  exact g
theorem count_at {most : Nat} (hm : most ≤ 1000000) (r : Rd) (X : Heap) : callL E F.wire_Reader_Count [.ptr (some (i, 0)), .int .i64 most] (hset h i r.o ++ X) = some (.int .i64 (readCount most r).1, hset h i (readCount most r).2.o ++ X, .w (wsR r i)) := by
  have g := rdCount_all hm r (h := hset h i r.o ++ X) (i := i) (by rw [hget_app (by rw [hset_len]; exact hil)]; exact hget_hset2 hil)
  rw [hset_app (by rw [hset_len]; exact hil), hset_hset] at g
  exact g
theorem text_at {most : Nat} (hm : most ≤ 1000000) (r : Rd) (hb : r.b.length ≤ 140737488355328) (X : Heap) : callL E F.wire_Reader_Text [.ptr (some (i, 0)), .int .i64 most] (hset h i r.o ++ X) = some (bytesV (readText most r).1, hset h i (readText most r).2.o ++ X, .w (wsR r i)) := by
  have g := rdText_all hm r hb (h := hset h i r.o ++ X) (i := i) (by rw [hget_app (by rw [hset_len]; exact hil)]; exact hget_hset2 hil)
  rw [hset_app (by rw [hset_len]; exact hil), hset_hset] at g
  exact g
theorem vec_at (r : Rd) (hok : r.Ok) (X : Heap) : callL E F.vector_Read [.ptr (some (i, 0))] (hset h i r.o ++ X) = some (.tup [(readVec r).1.v, .bool (readVec r).2.1], hset h i (readVec r).2.2.o ++ X, .w (wsR r i)) := by
  have g := vecRead_all r hok (h := hset h i r.o ++ X) (i := i) (by rw [hget_app (by rw [hset_len]; exact hil)]; exact hget_hset2 hil)
  rw [hset_app (by rw [hset_len]; exact hil), hset_hset] at g
  exact g
end
theorem readText_len (most : Nat) (r : Rd) : (readText most r).1.length ≤ r.b.length := by
  have h := readCount_le most r
  unfold readText
  split
  · split
    · simp
    · simp only [List.length_take]; omega
  · simp
theorem sibRead_round (seen : Vec) (O2 O4 : Vm.Obj) (r : Rd) (hb : r.b.length ≤ 140737488355328) (l : List Val) (hl : l.length ≤ 100) (n j : Nat) (hj : j < n) (hn : n ≤ 100) (ok al : Bool) {h : Heap} {i : Nat} (hil : i < h.length) :
    roundV (callL E) loopL h.length [0, 2, 5, 6, 17, 18] c_sibs_Read_l0 ⟨[(0, .ptr (some (i, 0))), (2, .ptr (some (h.length, 0))), (5, .bool ok), (6, .ptr (some (h.length + 2, 0))), (17, .int .i64 n), (18, .int .i64 j)], hset h i r.o ++ [O2, O4, sbO seen l], ⟨[i], [], al⟩⟩ =
      some (.normal, ⟨[(0, .ptr (some (i, 0))), (2, .ptr (some (h.length, 0))), (5, .bool ok), (6, .ptr (some (h.length + 2, 0))), (17, .int .i64 n), (18, .int .i64 ((j + 1 : Nat) : Int))], hset h i (readVal r).2.o ++ [O2, O4, sbO seen (l ++ [(readVal r).1])], ⟨[i], [], true⟩⟩) := by
  have hlt : (j : Int) < (n : Int) := by omega
  have h1 := i64_add1 (n := j) (by omega)
  have hb1 := Nat.le_trans (readFlag_le _) (Nat.le_trans (readInt_le (readNum r).2) (readNum_le r))
  have g1 := num_at hil r
  have g2 := int_at hil (readNum r).2
  have g3 := flag_at hil (readInt (readNum r).2).2
  have g4 := text_at hil (most := 200) (by omega) (readFlag (readInt (readNum r).2).2).2 (by omega)
  have hdl := readText_len 200 (readFlag (readInt (readNum r).2).2).2
  have a1 := wsR_add r i
  have a2 := wsR_add (readNum r).2 i
  have a3 := wsR_add (readInt (readNum r).2).2 i
  have a4 := wsR_add (readFlag (readInt (readNum r).2).2).2 i
  have c1 := wsR_lt r hil
  have c2 := wsR_lt (readNum r).2 hil
  have c3 := wsR_lt (readInt (readNum r).2).2 hil
  have c4 := wsR_lt (readFlag (readInt (readNum r).2).2).2 hil
  unfold readVal
  simp only
  generalize wsR r i = w1 at *
  generalize wsR (readNum r).2 i = w2 at *
  generalize wsR (readInt (readNum r).2).2 i = w3 at *
  generalize wsR (readFlag (readInt (readNum r).2).2).2 i = w4 at *
  generalize hq1 : readNum r = q1 at *
  obtain ⟨nd, r1⟩ := q1
  simp only at *
  generalize hq2 : readInt r1 = q2 at *
  obtain ⟨nn, r2⟩ := q2
  simp only at *
  generalize hq3 : readFlag r2 = q3 at *
  obtain ⟨dd, r3⟩ := q3
  simp only at *
  generalize hq4 : readText 200 r3 = q4 at *
  obtain ⟨x, r4⟩ := q4
  simp only at *
  have e8 : IntKind.wrap .i64 (if (8 : Int) < (nd : Int) then 8 else (nd : Int)) = ((min nd 8 : Nat) : Int) := by
    split
    · rw [wrap_i64] <;> omega
    · rw [wrap_i64] <;> omega
  have hvc : (⟨⟨((min nd 8 : Nat) : Int), nn⟩, x, dd⟩ : Val).v = .agg [.int .i64 ((min nd 8 : Nat) : Int), .int .i64 nn, .sl (x.map byteV), .bool dd] := rfl
  generalize hm : ((min nd 8 : Nat) : Int) = m at *
  unfold sbO
  rw [List.map_append, List.map_singleton, hvc]
  unfold bytesV at g4
  rw [show ((200 : Nat) : Int) = 200 from rfl] at g4
  have htk : ∀ a b c L, List.take (h.length + 3) (hset h i r4.o ++ (a :: b :: c :: L)) = hset h i r4.o ++ [a, b, c] := fun a b c L => by
    rw [List.take_append, hset_len, List.take_of_length_le (by rw [hset_len]; omega)]
    congr 1
    rw [show h.length + 3 - h.length = 3 by omega]
    rfl
  have hi1 : i < h.length + 1 := by omega
  have hi2 : i < h.length + 2 := by omega
  have hi3 : i < h.length + 3 := by omega
  have hi4 : i < h.length + 4 := by omega
  rw [s_round]
  by_cases hl0 : l = []
  · subst hl0
    simp only [List.map_nil] at *
    simp [-getElem?_pos, c_sibs_Read_l0, hlt, hj, g1, g2, g3, g4, h1, hil, hi1, hi2, hi3, hi4, hset_len, e8, chunks, htk, a1, a2, a3, a4, c1, c2, c3, c4]
    done
  · have hLl : (l.map Val.v).length = l.length := by simp
    have hF : (l.map Val.v).flatMap V.flat = l.flatMap Val.c := by rw [List.flatMap_map]; rfl
    have hFl : (l.flatMap Val.c).length = l.length * 4 := flat_len (z := 4) (fun x => rfl) l
    have hFp : (l.flatMap Val.c).all V.pureCell = true := flat_pure (c := Val.c) (fun x => rfl) l
    have hFc : chunks true 4 (l.length + 1) (l.flatMap Val.c ++ [.int .i64 m, .int .i64 nn, .sl (x.map byteV), .bool dd]) = l.map Val.v ++ [.agg [.int .i64 m, .int .i64 nn, .sl (x.map byteV), .bool dd]] := by
      have := flat_chunks (c := Val.c) (z := 4) (fun x => rfl) (by omega) (l ++ [⟨⟨m, nn⟩, x, dd⟩])
      simp only [List.flatMap_append, List.flatMap_cons, List.flatMap_nil, List.append_nil, List.length_append, List.length_singleton, List.map_append, List.map_cons, List.map_nil] at this
      exact this
    have hL : l.map Val.v ≠ [] := by simpa using hl0
    generalize l.map Val.v = L at *
    generalize l.flatMap Val.c = FL at *
    have hFt : List.take (l.length * 4) FL = FL := List.take_of_length_le (by omega)
    have hFt2 : List.take ((l.length + 1) * 4) (FL ++ [.int .i64 m, .int .i64 nn, .sl (x.map byteV), .bool dd]) = FL ++ [.int .i64 m, .int .i64 nn, .sl (x.map byteV), .bool dd] := List.take_of_length_le (by simp; omega)
    have hF2 : (l.length + 1) * 4 ≤ l.length * 4 + 4 := by omega
    have hll : (l.length + 1) * 48 ≤ 140737488355328 := by omega
    simp [-getElem?_pos, -List.length_flatMap, c_sibs_Read_l0, hlt, hj, g1, g2, g3, g4, h1, hil, hi1, hi2, hi3, hi4, hset_len, e8, htk, a1, a2, a3, a4, c1, c2, c3, c4, hL, hLl, hF, hFl, hFc, hFp, hFt, hFt2, hF2, hll]
    done
theorem readVals_succ : ∀ (k : Nat) (r : Rd), readVals (k + 1) r = ((readVals k r).1 ++ [(readVal (readVals k r).2).1], (readVal (readVals k r).2).2)
  | 0, r => rfl
  | k + 1, r => by
    rw [readVals, readVals_succ k (readVal r).2]
    rfl
theorem readVals_le : ∀ (k : Nat) (r : Rd), (readVals k r).2.b.length ≤ r.b.length
  | 0, _ => Nat.le_refl _
  | k + 1, r => Nat.le_trans (readVals_le k _) (readVal_le r)
theorem readCount_most (most : Nat) (r : Rd) : (readCount most r).1 ≤ most := by
  by_cases h : (readCount most r).2.err = 0
  · exact (readCount_sound h).2.2
  · have : (readCount most r).1 = 0 := by
      unfold readCount at h ⊢
      split
      · split
        · rfl
        · rename_i h1 h2
          rw [if_pos h1, if_neg h2] at h
          exact absurd h1 h
      · rfl
    omega
theorem readCount_none {most : Nat} {r : Rd} (h : (readCount most r).2.err ≠ 0) : (readCount most r).1 = 0 := by
  unfold readCount at h ⊢
  split
  · split
    · rfl
    · rename_i h1 h2
      rw [if_pos h1, if_neg h2] at h
      exact absurd h1 h
  · rfl
theorem sibRead_loop (seen : Vec) (O2 O4 : Vm.Obj) (r : Rd) (hb : r.b.length ≤ 140737488355328) (n : Nat) (hn : n ≤ 16) (ok : Bool) {h : Heap} {i : Nat} (hil : i < h.length) (w0 : List Nat) (hw : n = 0 ∨ w0 = [i]) :
    loopRun (callL E) loopL h.length [0, 2, 5, 6, 17, 18] c_sibs_Read_l0 ⟨[(0, .ptr (some (i, 0))), (2, .ptr (some (h.length, 0))), (5, .bool ok), (6, .ptr (some (h.length + 2, 0))), (17, .int .i64 n), (18, .int .i64 0)], hset h i r.o ++ [O2, O4, sbO seen []], ⟨w0, [], false⟩⟩ =
      some (.exit 0, ⟨[(0, .ptr (some (i, 0))), (2, .ptr (some (h.length, 0))), (5, .bool ok), (6, .ptr (some (h.length + 2, 0))), (17, .int .i64 n), (18, .int .i64 n), (19, .bool false)], hset h i (readVals n r).2.o ++ [O2, O4, sbO seen (readVals n r).1], ⟨w0, [], decide (0 < n)⟩⟩) := by
  have key := loop_to (C := callL E) (fb := h.length) (live := [0, 2, 5, 6, 17, 18]) (c := c_sibs_Read_l0)
    (fun j => ⟨[(0, .ptr (some (i, 0))), (2, .ptr (some (h.length, 0))), (5, .bool ok), (6, .ptr (some (h.length + 2, 0))), (17, .int .i64 n), (18, .int .i64 j)], hset h i (readVals j r).2.o ++ [O2, O4, sbO seen (readVals j r).1], ⟨w0, [], decide (0 < j)⟩⟩) n
    (r := (.exit 0, ⟨[(0, .ptr (some (i, 0))), (2, .ptr (some (h.length, 0))), (5, .bool ok), (6, .ptr (some (h.length + 2, 0))), (17, .int .i64 n), (18, .int .i64 n), (19, .bool false)], hset h i (readVals n r).2.o ++ [O2, O4, sbO seen (readVals n r).1], ⟨w0, [], decide (0 < n)⟩⟩)) (fun j hj => ?_) ?_ rfl
  · rw [show ((0 : Nat) : Int) = 0 from rfl] at key
    exact key
  · have hw' : w0 = [i] := by
      rcases hw with e | e
      · omega
      · exact e
    subst hw'
    have h1 := sibRead_round seen O2 O4 (readVals j r).2 (Nat.le_trans (readVals_le j r) hb) (readVals j r).1 (by rw [readVals_len]; omega) n j hj (by omega) ok (decide (0 < j)) hil
    rw [h1, readVals_succ]
    simp
  · rw [s_round]
    simp [c_sibs_Read_l0]
theorem sibsGood_eq (r : Rd) (hk : r.Ok) {h : Heap} {i : Nat} (hh : hget h i = some r.o) : callL E F.sibs_good [.ptr (some (i, 0))] h = some (.bool (decide (r.err = 0)), h, .no) := by
  refine callL_of rfl fn_sibs_good ?_
  have g1 := rdEnd_eq r hh
  have g2 := rdLeft_eq r hh
  unfold Rd.fin at g1
  by_cases e1 : r.err = 0
  · by_cases e2 : 0 < r.b.length
    · rw [if_pos ⟨e1, e2⟩] at g1
      have e3 : ((3 : Int) == 0) = false := rfl
      have e4 : (0 : Int) < (r.b.length : Int) := by omega
      simp [-getElem?_pos, c_sibs_good, g1, g2, e1, e2, e3, e4]
    · rw [if_neg (fun hc => e2 hc.2), e1] at g1
      simp [-getElem?_pos, c_sibs_good, g1, g2, e1]
  · rw [if_neg (fun hc => e1 hc.1)] at g1
    have e0 : (r.err == 0) = false := by simpa using e1
    have e2 := hk e1
    rw [e2] at g2
    simp [-getElem?_pos, c_sibs_good, g1, g2, e1, e0]
theorem good_at {h : Heap} {i : Nat} (hil : i < h.length) (r : Rd) (hok : r.Ok) (X : Heap) : callL E F.sibs_good [.ptr (some (i, 0))] (hset h i r.o ++ X) = some (.bool (decide (r.err = 0)), hset h i r.o ++ X, .no) :=
  sibsGood_eq r hok (by rw [hget_app (by rw [hset_len]; exact hil)]; exact hget_hset2 hil)
theorem readVec_stick {r : Rd} (h : r.err ≠ 0) : (readVec r).2.2 = r := by
  unfold readVec
  rw [readInts_stick 8 h]
  cases (decide (r.err = 0) && (readV8 r).may) <;> rfl
theorem readVals_stick0 (r : Rd) : readVals 0 r = ([], r) := rfl
set_option maxRecDepth 4000 in
theorem sibRead_all (r : Rd) (hok : r.Ok) (hb : r.b.length ≤ 140737488355328) {h : Heap} {i : Nat} (hh : hget h i = some r.o) :
    callL E F.sibs_Read [.ptr (some (i, 0))] h = some (.tup [(readSib r).1.v, .bool (readSib r).2.1], hset h i (readSib r).2.2.o, ⟨wsR r i, [], true⟩) := by
  refine callL_of rfl fn_sibs_Read ?_
  have hil := hget_lt hh
  have v1 := vec_at hil r hok
  rw [hset_same hh] at v1
  have hok1 := readVec_ok hok
  have hb1 : (readVec r).2.2.b.length ≤ r.b.length := by
    have : (readVec r).2.2 = (readInts 8 r).2 := by unfold readVec; cases (decide ((readInts 8 r).2.err = 0) && (readV8 r).may) <;> rfl
    rw [this]; exact readInts_le 8 r
  have c1 := count_at hil (most := 16) (by omega) (readVec r).2.2
  rw [show ((16 : Nat) : Int) = 16 from rfl] at c1
  have hok2 := readCount_ok (most := 16) hok1
  have hb2 := readCount_le 16 (readVec r).2.2
  have hn := readCount_most 16 (readVec r).2.2
  have a1 : addE (wsR r i) (wsR (readVec r).2.2 i) = wsR r i := by
    by_cases he : r.err = 0
    · rw [wsR_yes he, wsR_add]
    · rw [readVec_stick he, wsR_no he]; simp
  have k1 := wsR_lt r hil
  have k2 := wsR_lt (readVec r).2.2 hil
  have hw : (readCount 16 (readVec r).2.2).1 = 0 ∨ wsR r i = [i] := by
    by_cases he : r.err = 0
    · right; exact wsR_yes he i
    · left; rw [readVec_stick he, readCount_stick he]
  have lp := fun ok O2 O4 => sibRead_loop (readVec r).1 O2 O4 (readCount 16 (readVec r).2.2).2 (by omega) (readCount 16 (readVec r).2.2).1 hn ok hil (wsR r i) hw
  have hok3 := readVals_ok (readCount 16 (readVec r).2.2).1 hok2
  have gd := good_at hil _ hok3
  have my := fun l => sibsMay_eq ⟨(readVec r).1, (readVals (readCount 16 (readVec r).2.2).1 (readCount 16 (readVec r).2.2).2).1⟩ l
  have hl16 : (readVals (readCount 16 (readVec r).2.2).1 (readCount 16 (readVec r).2.2).2).1.length ≤ 16 := by rw [readVals_len]; exact hn
  have hsig : (readSib r).2.2 = (readVals (readCount 16 (readVec r).2.2).1 (readCount 16 (readVec r).2.2).2).2 := by
    unfold readSib
    simp only
    cases ((readVec r).2.1 && (decide ((readVals (readCount 16 (readVec r).2.2).1 (readCount 16 (readVec r).2.2).2).2.err = 0) && (⟨(readVec r).1, (readVals (readCount 16 (readVec r).2.2).1 (readCount 16 (readVec r).2.2).2).1⟩ : Sib).may)) <;> rfl
  rw [hsig]
  unfold readSib
  simp only
  generalize wsR (readVec r).2.2 i = w1 at *
  generalize wsR r i = w0 at *
  generalize readVec r = q1 at *
  obtain ⟨sv, okv, r1⟩ := q1
  simp only at *
  generalize readCount 16 r1 = q2 at *
  obtain ⟨n, r2⟩ := q2
  simp only at *
  generalize readVals n r2 = q3 at *
  obtain ⟨l, r3⟩ := q3
  simp only at *
  have hcc : sv.c ++ [V.sl (l.map Val.v)] = Sib.c ⟨sv, l⟩ := rfl
  have hb8 : ∀ x : V, (sv.c ++ [x])[8]? = some x := fun x => sbC8 _ x
  have hbs : ∀ x y : V, (sv.c ++ [x]).set 8 y = sv.c ++ [y] := fun x y => sbC_set8 _ x y
  have hblt : ∀ (m : Nat) (x : V), V.ltL m (sv.c ++ [x]) = x.lt m := fun m x => sbC_lt _ x m
  have hd9 : ∀ x : V, List.drop 9 (sv.c ++ [x]) = [] := fun x => List.drop_of_length_le (by simp)
  unfold sbO sbC at lp
  have hLl : (l.map Val.v).length = l.length := by simp
  have hF : (l.map Val.v).flatMap V.flat = l.flatMap Val.c := by rw [List.flatMap_map]; rfl
  have hFl : (l.flatMap Val.c).length = l.length * 4 := flat_len (z := 4) (fun x => rfl) l
  have hFp : (l.flatMap Val.c).all V.pureCell = true := flat_pure (c := Val.c) (fun x => rfl) l
  have hFc0 : chunks true 4 l.length (l.flatMap Val.c) = l.map Val.v := flat_chunks (c := Val.c) (z := 4) (fun x => rfl) (by omega) l
  have hch0 : chunks true 4 0 [] = [] := rfl
  have htk : ∀ L, List.take h.length (hset h i r3.o ++ L) = hset h i r3.o := fun L => List.take_left' (hset_len _ _ _)
  simp only [Sib.v, Vec.v, List.map_nil] at v1 lp my ⊢
  have hi1 : i < h.length + 1 := by omega
  have hi2 : i < h.length + 2 := by omega
  have hi3 : i < h.length + 3 := by omega
  by_cases hl0 : l = []
  · subst hl0
    simp only [List.map_nil] at *
    cases okv with
    | false =>
      simp [-getElem?_pos, -List.length_flatMap, c_sibs_Read, v1, c1, lp, gd, my, hil, hi1, hi2, hi3, hset_len, a1, k1, k2, hb8, hbs, hblt, hd9, hcc, zeroSib_c, htk, chunks]
      done
    | true =>
      cases he : decide (r3.err = 0) with
      | false =>
        rw [he] at gd
        simp [-getElem?_pos, -List.length_flatMap, c_sibs_Read, v1, c1, lp, gd, my, hil, hi1, hi2, hi3, hset_len, a1, k1, k2, hb8, hbs, hblt, hd9, hcc, zeroSib_c, htk, chunks]
        done
      | true =>
        rw [he] at gd
        cases hmy : (⟨sv, []⟩ : Sib).may with
        | false =>
          rw [hmy] at my
          simp [-getElem?_pos, -List.length_flatMap, c_sibs_Read, v1, c1, lp, gd, my, hil, hi1, hi2, hi3, hset_len, a1, k1, k2, hb8, hbs, hblt, hd9, hcc, zeroSib_c, htk, chunks]
          done
        | true =>
          rw [hmy] at my
          simp [-getElem?_pos, -List.length_flatMap, c_sibs_Read, v1, c1, lp, gd, my, hil, hi1, hi2, hi3, hset_len, a1, k1, k2, hb8, hbs, hblt, hd9, hcc, zeroSib_c, htk, chunks]
          done
  · have hL : l.map Val.v ≠ [] := by simpa using hl0
    generalize l.map Val.v = L at *
    generalize l.flatMap Val.c = FL at *
    have hFt : List.take (l.length * 4) FL = FL := List.take_of_length_le (by omega)
    cases okv with
    | false =>
      simp [-getElem?_pos, -List.length_flatMap, c_sibs_Read, v1, c1, lp, gd, my, hil, hi1, hi2, hi3, hset_len, a1, k1, k2, hb8, hbs, hblt, hd9, hcc, zeroSib_c, htk, hch0, hL, hLl, hF, hFl, hFc0, hFp, hFt]
      done
    | true =>
      cases he : decide (r3.err = 0) with
      | false =>
        rw [he] at gd
        simp [-getElem?_pos, -List.length_flatMap, c_sibs_Read, v1, c1, lp, gd, my, hil, hi1, hi2, hi3, hset_len, a1, k1, k2, hb8, hbs, hblt, hd9, hcc, zeroSib_c, htk, hch0, hL, hLl, hF, hFl, hFc0, hFp, hFt]
        done
      | true =>
        rw [he] at gd
        cases hmy : (⟨sv, l⟩ : Sib).may with
        | false =>
          rw [hmy] at my
          simp [-getElem?_pos, -List.length_flatMap, c_sibs_Read, v1, c1, lp, gd, my, hil, hi1, hi2, hi3, hset_len, a1, k1, k2, hb8, hbs, hblt, hd9, hcc, zeroSib_c, htk, hch0, hL, hLl, hF, hFl, hFc0, hFp, hFt]
          done
        | true =>
          rw [hmy] at my
          simp [-getElem?_pos, -List.length_flatMap, c_sibs_Read, v1, c1, lp, gd, my, hil, hi1, hi2, hi3, hset_len, a1, k1, k2, hb8, hbs, hblt, hd9, hcc, zeroSib_c, htk, hch0, hL, hLl, hF, hFl, hFc0, hFp, hFt]
          done
end Go.Proofs.Ytfdhldbhbigfhaa.V
