/- DigestBack: joined. -/
import Derived.Test.YtphlgefkcghopaaVmKG
set_option linter.unusedVariables false
set_option linter.unusedSimpArgs false
namespace Go.Proofs.Ytphlgefkcghopaa.V
open Go.Vm

theorem rdNum_empty {h : Heap} {i : Nat} (hh : hget h i = some (Rd.o ⟨[], 0⟩)) : callL E F.wire_Reader_Num [.ptr (some (i, 0))] h = some (.int .u64 0, hset h i (Rd.o ⟨[], 2⟩), .w [i]) := by
  refine callL_of rfl fn_wire_Reader_Num ?_
  have hil := hget_lt hh
  have g1 := rdByte_empty hh
  have h1 : loopRun (callL E) loopL h.length [0, 3, 7] c_wire_Reader_Num_l0 ⟨[(0, .ptr (some (i, 0))), (3, .int .u64 0), (7, .int .i64 0)], h, .no⟩ = some (.ret, ⟨[(2, .int .u64 0)], hset h i (Rd.o ⟨[], 2⟩), .w [i]⟩) := by
    refine loop_ret ?_
    rw [s_round]
    simp [-getElem?_pos, c_wire_Reader_Num_l0, g1, hil]
  simp [-getElem?_pos, c_wire_Reader_Num, h1, hil, hset_len]
theorem rdCount_empty (most : Int) {h : Heap} {i : Nat} (hh : hget h i = some (Rd.o ⟨[], 0⟩)) : callL E F.wire_Reader_Count [.ptr (some (i, 0)), .int .i64 most] h = some (.int .i64 0, hset h i (Rd.o ⟨[], 2⟩), .w [i]) := by
  refine callL_of rfl fn_wire_Reader_Count ?_
  have hil := hget_lt hh
  have g1 := rdNum_empty hh
  have g2 := rdOk_eq _ (hget_hset (q := Rd.o ⟨[], 2⟩) hh)
  simp only [show ((2 : Int) = 0) = False from by simp, decide_false] at g2
  simp [-getElem?_pos, c_wire_Reader_Count, g1, g2, hil, hset_len]
theorem rdText_empty (most : Int) {h : Heap} {i : Nat} (hh : hget h i = some (Rd.o ⟨[], 0⟩)) : callL E F.wire_Reader_Text [.ptr (some (i, 0)), .int .i64 most] h = some (bytesV [], hset h i (Rd.o ⟨[], 2⟩), .w [i]) := by
  refine callL_of rfl fn_wire_Reader_Text ?_
  have hil := hget_lt hh
  have g1 := rdCount_empty most hh
  have g2 := rdOk_eq _ (hget_hset (q := Rd.o ⟨[], 2⟩) hh)
  simp only [show ((2 : Int) = 0) = False from by simp, decide_false] at g2
  simp [-getElem?_pos, c_wire_Reader_Text, g1, g2, hil, hset_len, bytesV]
/-! ### what is written, where there is room -/
theorem put_short {w : Wr} {x : List UInt8} (h : (w.put x).long = false) : w.long = false ∧ (w.put x).b = w.b ++ x := by
  unfold Wr.put at h ⊢
  split at h
  · cases h
  · rename_i hc
    rw [if_neg hc]
    exact ⟨h, rfl⟩
theorem vec_short : ∀ {l : List Int} {w : Wr}, (w.vec l).long = false → w.long = false ∧ (w.vec l).b = w.b ++ encV l
  | [], w, h => ⟨h, by simp [Wr.vec, encV]⟩
  | x :: l, w, h => by
    obtain ⟨h1, h2⟩ := vec_short (l := l) (w := w.put (encNum (zig x))) h
    obtain ⟨h3, h4⟩ := put_short h1
    refine ⟨h3, ?_⟩
    show (Wr.vec (w.put (encNum (zig x))) l).b = _
    rw [h2, h4]
    simp [encV]
theorem dots_short : ∀ {l : List Dot} {w : Wr}, (w.dots l).long = false → w.long = false ∧ (w.dots l).b = w.b ++ encD l
  | [], w, h => ⟨h, by simp [Wr.dots, encD]⟩
  | x :: l, w, h => by
    obtain ⟨h1, h2⟩ := dots_short (l := l) (w := w.dot x) h
    obtain ⟨h3, h4⟩ := put_short h1
    obtain ⟨h5, h6⟩ := put_short h3
    refine ⟨h5, ?_⟩
    show (Wr.dots (w.dot x) l).b = _
    rw [h2]
    unfold Wr.dot
    rw [h4, h6]
    simp [encD]
theorem dig_short {w : Wr} {d : Dig} (h : (w.dig d).long = false) : (w.dig d).b = w.b ++ encDig d := by
  unfold Wr.dig at h ⊢
  obtain ⟨h1, h2⟩ := dots_short h
  obtain ⟨h3, h4⟩ := put_short h1
  obtain ⟨h5, h6⟩ := vec_short h3
  obtain ⟨_, h8⟩ := put_short h5
  rw [h2, h4, h6, h8]
  simp [encDig]
/-! ### the plain law -/
theorem covers_node {v : Vec} {d : Dot} (h : v.covers d = true) : 0 ≤ d.node ∧ d.node < 8 := by
  unfold Vec.covers at h
  simp only [Bool.and_eq_true, decide_eq_true_eq] at h
  exact h.1.1
theorem cap_id {d : Dot} (h : 0 ≤ d.node ∧ d.node < 8) : capD d = d := by
  obtain ⟨a, b⟩ := d
  simp only at h
  unfold capD u64
  simp only [Dot.mk.injEq, and_true]
  omega
theorem cap_back {d : Dot} (hd : d.Wf) (h : 0 ≤ (capD d).node ∧ (capD d).node < 8) : capD d = d := by
  refine cap_id ?_
  obtain ⟨a, b⟩ := d
  obtain ⟨⟨h1, h2⟩, _⟩ := hd
  unfold capD u64 at h
  simp only at *
  omega
theorem dMay_dots {d : Dig} (h : d.may = true) : d.seen.may = true ∧ ∀ x ∈ d.dots, d.seen.covers x = true := by
  unfold Dig.may at h
  simp only [Bool.and_eq_true, decide_eq_true_eq] at h
  obtain ⟨_, h2, _, h4⟩ := h
  refine ⟨h2, fun x hx => ?_⟩
  obtain ⟨j, hj, rfl⟩ := List.getElem_of_mem hx
  have := h4 j hj
  unfold dotAt at this
  rw [getB_at (List.getElem?_eq_getElem hj), Bool.and_eq_true] at this
  exact this.1
theorem capDig_of {d : Dig} (h : ∀ x ∈ d.dots, capD x = x) : capDig d = d := by
  obtain ⟨k, v, l⟩ := d
  unfold capDig
  simp only [Dig.mk.injEq, true_and]
  rw [List.map_congr_left h, List.map_id']
theorem capDig_may {d : Dig} (hd : ∀ x ∈ d.dots, x.Wf) : (d.seen.may && (capDig d).may) = d.may ∧ (d.may = true → capDig d = d) := by
  have h1 : d.may = true → capDig d = d := fun h => capDig_of fun x hx => cap_id (covers_node ((dMay_dots h).2 x hx))
  refine ⟨?_, h1⟩
  cases hm : d.may with
  | true => rw [h1 hm, hm, (dMay_dots hm).1]; rfl
  | false =>
    cases hc : (capDig d).may with
    | false => simp
    | true =>
      exfalso
      have : capDig d = d := capDig_of fun x hx => cap_back (hd x hx) (covers_node ((dMay_dots hc).2 (capD x) (List.mem_map_of_mem hx)))
      rw [this, hm] at hc
      cases hc
theorem mayNo_key {d : Dig} (h : 32 < d.key.length) : d.may = false := by
  unfold Dig.may keyOk
  rw [decide_eq_false (p := d.key.length ≤ 32) (by omega)]
  simp
theorem mayNo_len {d : Dig} (h : 16 < d.dots.length) : d.may = false := by
  unfold Dig.may
  rw [decide_eq_false (p := d.dots.length ≤ 16) (by omega)]
  simp
theorem dig_most (w : Wr) (d : Dig) : (w.dig d).most = w.most := by
  have key : ∀ (l : List Dot) (w : Wr), (w.dots l).most = w.most := by
    intro l
    induction l with
    | nil => intro w; rfl
    | cons v l ih => intro w; exact (ih _).trans (by simp [Wr.dot, Wr.put_most])
  have kv : ∀ (l : List Int) (w : Wr), (w.vec l).most = w.most := by
    intro l
    induction l with
    | nil => intro w; rfl
    | cons v l ih => intro w; exact (ih _).trans (by simp [Wr.put_most])
  simp [Wr.dig, key, kv, Wr.put_most]
set_option maxRecDepth 4000 in
theorem DigestBack_eq (d : Dig) (hd : d.Wf) (h : Heap) : ∃ fl, callL E F.tattlerlaw13_DigestBack [d.v] h = some (.bool true, h, fl) := by
  have th := thin_eq [d] (h ++ [.cells d.c []])
  have aw := awake_eq (h ++ [.cells d.c []])
  simp only [List.map_cons, List.map_nil] at th
  by_cases hT : ThinP [d]
  · simp only [hT, decide_true] at th
    have hlen : d.dots.length ≤ 30 := hT.2 d (by simp)
    have hs : d.Small := ⟨hd.1, hd.2.1, by omega, hd.2.2.2⟩
    have w0 := NewWriter_eq 5000 (h ++ [.cells d.c []])
    have hm : max (0 : Int) 5000 = 5000 := by omega
    rw [hm] at w0
    have hW : (⟨[], 5000, false⟩ : Wr).Ok := ⟨by simp, by simp, by simp⟩
    have hW2 := hW.dig d
    have w1 := digWrite_eq hs hW (h := h ++ [.cells d.c [], (⟨[], 5000, false⟩ : Wr).o]) (i := h.length + 1) (by simp)
    have w2 := Done_eq hW2 (h := h ++ [.cells d.c [], ((⟨[], 5000, false⟩ : Wr).dig d).o]) (i := h.length + 1) (by simp)
    have hshort := dig_short (w := ⟨[], 5000, false⟩) (d := d)
    have hmo : ((⟨[], 5000, false⟩ : Wr).dig d).most = 5000 := dig_most _ _
    generalize (⟨[], 5000, false⟩ : Wr).dig d = W at *
    have hb5 : W.b.length ≤ 5000 := by have := hW2.len; omega
    have hbl : W.b.length ≤ 140737488355328 := by have := hW2.len; have := hW2.hi; omega
    have hO : hset (h ++ [.cells d.c [], (⟨[], 5000, false⟩ : Wr).o]) (h.length + 1) W.o = h ++ [.cells d.c [], W.o] := hset_local _ _ _ _
    rw [hO] at w1
    have aws : ∀ l, callL E F.tattlerlaw13_awake [] (h ++ l) = some (.bool true, h ++ l, .no) := fun l => awake_eq (h ++ l)
    have mys : ∀ l, callL E F.digest_May [d.v] (h ++ l) = some (.bool d.may, h ++ l, .no) := fun l => digMay_eq d (h ++ l)
    have sms : ∀ l, callL E F.tattlerref5_SameDigests [.sl [d.v], .sl [d.v]] (h ++ l) = some (.bool true, h ++ l, .no) := fun l => sameDigs_self d (by omega) (h ++ l)
    have r0 := fun b (hb : b.length ≤ 140737488355328) => NewReader_eq b hb (h ++ [.cells d.c [], W.o])
    have hsr : ∀ a b c o, hset (h ++ [a, b, c]) (h.length + 2) o = h ++ [a, b, o] := fun a b c o => hset_local _ _ _ _
    simp only [Dig.v] at *
    cases hlg : W.long with
    | true =>
      rw [hlg] at w2
      simp only [if_true] at w2
      have r1 := r0 [] (by simp)
      have rd := digRead_A ⟨[], 0⟩ 2 (by simp) [] (h := h ++ [.cells d.c [], W.o, Rd.o ⟨[], 0⟩]) (i := h.length + 2) (by simp) (fun h' hh => rdText_empty 32 hh)
      rw [hsr] at rd
      refine ⟨⟨[], [], true⟩, callL_of rfl fn_tattlerlaw13_DigestBack ?_⟩
      simp [-getElem?_pos, c_tattlerlaw13_DigestBack, th, w0, w1, w2, r1, rd, aws]
      done
    | false =>
      rw [hlg] at w2
      simp only [Bool.false_eq_true, if_false] at w2
      have hbe := hshort hlg
      simp only [List.nil_append] at hbe
      have r1 := r0 W.b hbl
      rw [hbe] at r1 w2 hb5
      have hk5 : d.key.length ≤ 5000 := by
        unfold encDig at hb5
        simp only [List.length_append] at hb5
        omega
      by_cases hk : d.key.length ≤ 32
      · by_cases hd16 : d.dots.length ≤ 16
        · have rd := digRead_C d hs hk hd16 (h := h ++ [.cells d.c [], W.o, Rd.o ⟨encDig d, 0⟩]) (i := h.length + 2) (by simp)
          rw [hsr] at rd
          obtain ⟨c1, c2⟩ := capDig_may (d := d) hd.2.2.2
          rw [c1] at rd
          have en : ∀ x, callL E F.wire_Reader_End [.ptr (some (h.length + 2, 0))] (h ++ [.cells d.c [], W.o, Rd.o ⟨[], 0⟩, x]) = some (.int .i64 0, h ++ [.cells d.c [], W.o, Rd.o ⟨[], 0⟩, x], .no) := fun x => rdEnd_eq ⟨[], 0⟩ (by simp)
          refine ⟨⟨[], [], true⟩, callL_of rfl fn_tattlerlaw13_DigestBack ?_⟩
          cases hmy : d.may with
          | true =>
            rw [hmy] at rd mys
            rw [c2 hmy] at rd
            simp only [if_true] at rd
            simp [-getElem?_pos, c_tattlerlaw13_DigestBack, th, w0, w1, w2, r1, rd, aws, mys, sms, en]
            done
          | false =>
            rw [hmy] at rd mys
            simp only [Bool.false_eq_true, if_false] at rd
            simp [-getElem?_pos, c_tattlerlaw13_DigestBack, th, w0, w1, w2, r1, rd, aws, mys]
            done
        · have rd := digRead_B d hs hk (by omega) (h := h ++ [.cells d.c [], W.o, Rd.o ⟨encDig d, 0⟩]) (i := h.length + 2) (by simp)
          rw [hsr] at rd
          rw [mayNo_len (by omega)] at mys
          refine ⟨⟨[], [], true⟩, callL_of rfl fn_tattlerlaw13_DigestBack ?_⟩
          simp [-getElem?_pos, c_tattlerlaw13_DigestBack, th, w0, w1, w2, r1, rd, aws, mys]
          done
      · have rd := digRead_A ⟨encDig d, 0⟩ 4 (by simp) [] (h := h ++ [.cells d.c [], W.o, Rd.o ⟨encDig d, 0⟩]) (i := h.length + 2) (by simp) (fun h' hh => by
          have := rdText_eq (x := d.key) (most := 32) (by omega) (by omega) (encV d.seen.l ++ (encNum d.dots.length ++ encD d.dots)) hh
          rw [if_pos (by omega), if_pos (by omega)] at this
          exact this)
        rw [hsr] at rd
        rw [mayNo_key (by omega)] at mys
        refine ⟨⟨[], [], true⟩, callL_of rfl fn_tattlerlaw13_DigestBack ?_⟩
        simp [-getElem?_pos, c_tattlerlaw13_DigestBack, th, w0, w1, w2, r1, rd, aws, mys]
        done
  · simp only [hT, decide_false] at th
    refine ⟨.no, callL_of rfl fn_tattlerlaw13_DigestBack ?_⟩
    simp [-getElem?_pos, c_tattlerlaw13_DigestBack, th, aw]
theorem tattlerlaw13_DigestBack_top {c0 : List V} (h0 : Ty.Has digT c0) : ∃ h fl, callL E F.tattlerlaw13_DigestBack [Ty.el digT c0] [] = some (.bool true, h, fl) := by
  obtain ⟨d, hd, rfl⟩ := Dig.dec h0
  obtain ⟨fl, h⟩ := DigestBack_eq d hd []
  exact ⟨_, fl, h⟩
end Go.Proofs.Ytphlgefkcghopaa.V
