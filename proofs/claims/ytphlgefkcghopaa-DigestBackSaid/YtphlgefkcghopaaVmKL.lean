/- What the functions of 'digest' compute: what is lacked. -/
import Derived.Test.YtphlgefkcghopaaVmKD
set_option linter.unusedVariables false
set_option linter.unusedSimpArgs false
namespace Go.Proofs.Ytphlgefkcghopaa.V
open Go.Vm

def idxV (o : Option Nat) : V := .int .i64 (match o with | some i => (i : Int) | none => -1)
theorem slices_IndexFunc_api_Dot_api_Dot_loop (l : List Dot) (hl : l.length ≤ 4611686018427387904) (f : Nat) (caps : List V) (p : Dot → Bool) (h : Heap) (fb : Nat) (hp : ∀ x ∈ l, callL E f (Dot.v x :: caps) h = some (.bool (p x), h, .no)) (hcap : V.ltL h.length caps = true) : ∀ (k j : Nat), j + k = l.length →
    loopRun (callL E) loopL fb [0, 1, 7, 8] c_slices_IndexFunc_api_Dot_api_Dot_l0 ⟨[(0, .sl (l.map Dot.v)), (1, .fn f [] caps), (7, .int .i64 l.length), (8, .int .i64 j)], h, .no⟩ =
      match (l.drop j).findIdx? p with
      | some i => some (.ret, ⟨[(4, .int .i64 ((j + i : Nat) : Int))], h, .no⟩)
      | none => some (.exit 0, ⟨[(0, .sl (l.map Dot.v)), (1, .fn f [] caps), (7, .int .i64 l.length), (8, .int .i64 l.length), (9, .bool false)], h, .no⟩) := by
  intro k
  induction k with
  | zero =>
    intro j hj
    have : j = l.length := by omega
    subst this
    rw [List.drop_length]
    refine loop_exit ?_
    rw [s_round]
    simp [c_slices_IndexFunc_api_Dot_api_Dot_l0]
  | succ k ih =>
    intro j hj
    have hlt : (j : Int) < (l.length : Int) := by omega
    obtain ⟨x, hx, hd, hm⟩ := get_of_lt (l := l) (i := j) (by omega)
    have h1 := i64_add1 (n := j) (by omega)
    have h2 := hp x hm
    rw [hd, List.findIdx?_cons]
    cases hb : p x with
    | true =>
      rw [hb] at h2
      refine loop_ret ?_
      rw [s_round]
      simp [-getElem?_pos, c_slices_IndexFunc_api_Dot_api_Dot_l0, hlt, hx, h2]
    | false =>
      rw [hb] at h2
      have h3 := ih (j + 1) (by omega)
      have h4 : roundV (callL E) loopL fb [0, 1, 7, 8] c_slices_IndexFunc_api_Dot_api_Dot_l0 ⟨[(0, .sl (l.map Dot.v)), (1, .fn f [] caps), (7, .int .i64 l.length), (8, .int .i64 j)], h, .no⟩ =
          some (.normal, ⟨[(0, .sl (l.map Dot.v)), (1, .fn f [] caps), (7, .int .i64 l.length), (8, .int .i64 ((j + 1 : Nat) : Int))], h, .no⟩) := by
        rw [s_round]
        simp [-getElem?_pos, c_slices_IndexFunc_api_Dot_api_Dot_l0, hlt, hx, h2, h1, hcap]
      cases hf : (l.drop (j + 1)).findIdx? p with
      | none => rw [hf] at h3; exact loop_next h4 h3
      | some i =>
        rw [hf] at h3
        refine loop_next h4 (h3.trans ?_)
        have e : j + 1 + i = j + (i + 1) := by omega
        simp only [Option.map_some, e]
theorem slices_IndexFunc_api_Dot_api_Dot_eq (l : List Dot) (hl : l.length ≤ 4611686018427387904) (f : Nat) (caps : List V) (p : Dot → Bool) (h : Heap) (hp : ∀ x ∈ l, callL E f (Dot.v x :: caps) h = some (.bool (p x), h, .no)) (hcap : V.ltL h.length caps = true) :
    callL E F.slices_IndexFunc_api_Dot_api_Dot [.sl (l.map Dot.v), .fn f [] caps] h = some (idxV (l.findIdx? p), h, .no) := by
  refine callL_of rfl fn_slices_IndexFunc_api_Dot_api_Dot ?_
  have h1 := slices_IndexFunc_api_Dot_api_Dot_loop l hl f caps p h h.length hp hcap l.length 0 (by omega)
  rw [List.drop_zero, show ((0 : Nat) : Int) = 0 from rfl] at h1
  cases hf : l.findIdx? p with
  | none => rw [hf] at h1; simp [c_slices_IndexFunc_api_Dot_api_Dot, h1, idxV]
  | some i => rw [hf] at h1; simp [c_slices_IndexFunc_api_Dot_api_Dot, h1, idxV]

theorem slices_IndexFunc_api_Digest_api_Digest_loop (l : List Dig) (hl : l.length ≤ 4611686018427387904) (f : Nat) (caps : List V) (p : Dig → Bool) (h : Heap) (fb : Nat) (hp : ∀ x ∈ l, callL E f (Dig.v x :: caps) h = some (.bool (p x), h, .no)) (hcap : V.ltL h.length caps = true) : ∀ (k j : Nat), j + k = l.length →
    loopRun (callL E) loopL fb [0, 1, 7, 8] c_slices_IndexFunc_api_Digest_api_Digest_l0 ⟨[(0, .sl (l.map Dig.v)), (1, .fn f [] caps), (7, .int .i64 l.length), (8, .int .i64 j)], h, .no⟩ =
      match (l.drop j).findIdx? p with
      | some i => some (.ret, ⟨[(4, .int .i64 ((j + i : Nat) : Int))], h, .no⟩)
      | none => some (.exit 0, ⟨[(0, .sl (l.map Dig.v)), (1, .fn f [] caps), (7, .int .i64 l.length), (8, .int .i64 l.length), (9, .bool false)], h, .no⟩) := by
  intro k
  induction k with
  | zero =>
    intro j hj
    have : j = l.length := by omega
    subst this
    rw [List.drop_length]
    refine loop_exit ?_
    rw [s_round]
    simp [c_slices_IndexFunc_api_Digest_api_Digest_l0]
  | succ k ih =>
    intro j hj
    have hlt : (j : Int) < (l.length : Int) := by omega
    obtain ⟨x, hx, hd, hm⟩ := get_of_lt (l := l) (i := j) (by omega)
    have h1 := i64_add1 (n := j) (by omega)
    have h2 := hp x hm
    rw [hd, List.findIdx?_cons]
    cases hb : p x with
    | true =>
      rw [hb] at h2
      refine loop_ret ?_
      rw [s_round]
      simp [-getElem?_pos, c_slices_IndexFunc_api_Digest_api_Digest_l0, hlt, hx, h2]
    | false =>
      rw [hb] at h2
      have h3 := ih (j + 1) (by omega)
      have h4 : roundV (callL E) loopL fb [0, 1, 7, 8] c_slices_IndexFunc_api_Digest_api_Digest_l0 ⟨[(0, .sl (l.map Dig.v)), (1, .fn f [] caps), (7, .int .i64 l.length), (8, .int .i64 j)], h, .no⟩ =
          some (.normal, ⟨[(0, .sl (l.map Dig.v)), (1, .fn f [] caps), (7, .int .i64 l.length), (8, .int .i64 ((j + 1 : Nat) : Int))], h, .no⟩) := by
        rw [s_round]
        simp [-getElem?_pos, c_slices_IndexFunc_api_Digest_api_Digest_l0, hlt, hx, h2, h1, hcap]
      cases hf : (l.drop (j + 1)).findIdx? p with
      | none => rw [hf] at h3; exact loop_next h4 h3
      | some i =>
        rw [hf] at h3
        refine loop_next h4 (h3.trans ?_)
        have e : j + 1 + i = j + (i + 1) := by omega
        simp only [Option.map_some, e]
theorem slices_IndexFunc_api_Digest_api_Digest_eq (l : List Dig) (hl : l.length ≤ 4611686018427387904) (f : Nat) (caps : List V) (p : Dig → Bool) (h : Heap) (hp : ∀ x ∈ l, callL E f (Dig.v x :: caps) h = some (.bool (p x), h, .no)) (hcap : V.ltL h.length caps = true) :
    callL E F.slices_IndexFunc_api_Digest_api_Digest [.sl (l.map Dig.v), .fn f [] caps] h = some (idxV (l.findIdx? p), h, .no) := by
  refine callL_of rfl fn_slices_IndexFunc_api_Digest_api_Digest ?_
  have h1 := slices_IndexFunc_api_Digest_api_Digest_loop l hl f caps p h h.length hp hcap l.length 0 (by omega)
  rw [List.drop_zero, show ((0 : Nat) : Int) = 0 from rfl] at h1
  cases hf : l.findIdx? p with
  | none => rw [hf] at h1; simp [c_slices_IndexFunc_api_Digest_api_Digest, h1, idxV]
  | some i => rw [hf] at h1; simp [c_slices_IndexFunc_api_Digest_api_Digest, h1, idxV]


theorem idx_ge (o : Option Nat) : binV .geq .no (idxV o) (.int .i64 0) = some (.bool o.isSome) := by
  cases o <;> simp [idxV]
theorem containsFunc_eq (l : List Dot) (hl : l.length ≤ 4611686018427387904) (f : Nat) (caps : List V) (p : Dot → Bool) (h : Heap) (hp : ∀ x ∈ l, callL E f (Dot.v x :: caps) h = some (.bool (p x), h, .no)) (hcap : V.ltL h.length caps = true) :
    callL E F.slices_ContainsFunc_api_Dot_api_Dot [.sl (l.map Dot.v), .fn f [] caps] h = some (.bool (l.any p), h, .no) := by
  refine callL_of rfl fn_slices_ContainsFunc_api_Dot_api_Dot ?_
  have h1 := slices_IndexFunc_api_Dot_api_Dot_eq l hl f caps p h hp hcap
  have h2 : (l.findIdx? p).isSome = l.any p := by rw [List.findIdx?_isSome]
  simp [c_slices_ContainsFunc_api_Dot_api_Dot, h1, idx_ge, h2]

theorem index_loop (l : List Dot) (hl : l.length ≤ 4611686018427387904) (d : Dot) (h : Heap) (fb : Nat) : ∀ (k j : Nat), j + k = l.length →
    loopRun (callL E) loopL fb [0, 3, 7, 8] c_slices_Index_api_Dot_api_Dot_l0 ⟨[(0, .sl (l.map Dot.v)), (3, .ptr (some (h.length, 0))), (7, .int .i64 l.length), (8, .int .i64 j)], h ++ [.cells d.c []], .no⟩ =
      match (l.drop j).findIdx? (fun x => decide (d = x)) with
      | some i => some (.ret, ⟨[(4, .int .i64 ((j + i : Nat) : Int))], h ++ [.cells d.c []], .no⟩)
      | none => some (.exit 0, ⟨[(0, .sl (l.map Dot.v)), (3, .ptr (some (h.length, 0))), (7, .int .i64 l.length), (8, .int .i64 l.length), (9, .bool false)], h ++ [.cells d.c []], .no⟩) := by
  intro k
  induction k with
  | zero =>
    intro j hj
    have : j = l.length := by omega
    subst this
    rw [List.drop_length]
    refine loop_exit ?_
    rw [s_round]
    simp [c_slices_Index_api_Dot_api_Dot_l0]
  | succ k ih =>
    intro j hj
    have hlt : (j : Int) < (l.length : Int) := by omega
    obtain ⟨x, hx, hd, hm⟩ := get_of_lt (l := l) (i := j) (by omega)
    have h1 := i64_add1 (n := j) (by omega)
    rw [hd, List.findIdx?_cons]
    by_cases hb : d = x
    · rw [decide_eq_true hb]
      refine loop_ret ?_
      rw [s_round]
      simp [-getElem?_pos, c_slices_Index_api_Dot_api_Dot_l0, hlt, hx, Dot.eq_cells, hb]
    · have h3 := ih (j + 1) (by omega)
      have h4 : roundV (callL E) loopL fb [0, 3, 7, 8] c_slices_Index_api_Dot_api_Dot_l0 ⟨[(0, .sl (l.map Dot.v)), (3, .ptr (some (h.length, 0))), (7, .int .i64 l.length), (8, .int .i64 j)], h ++ [.cells d.c []], .no⟩ =
          some (.normal, ⟨[(0, .sl (l.map Dot.v)), (3, .ptr (some (h.length, 0))), (7, .int .i64 l.length), (8, .int .i64 ((j + 1 : Nat) : Int))], h ++ [.cells d.c []], .no⟩) := by
        rw [s_round]
        simp [-getElem?_pos, c_slices_Index_api_Dot_api_Dot_l0, hlt, hx, h1, Dot.eq_cells, hb]
      rw [decide_eq_false hb]
      cases hf : (l.drop (j + 1)).findIdx? (fun x => decide (d = x)) with
      | none => rw [hf] at h3; exact loop_next h4 h3
      | some i =>
        rw [hf] at h3
        refine loop_next h4 (h3.trans ?_)
        have e : j + 1 + i = j + (i + 1) := by omega
        simp only [Option.map_some, e]
theorem index_eq (l : List Dot) (hl : l.length ≤ 4611686018427387904) (d : Dot) (h : Heap) :
    callL E F.slices_Index_api_Dot_api_Dot [.sl (l.map Dot.v), d.v] h = some (idxV (l.findIdx? fun x => decide (d = x)), h, .no) := by
  refine callL_of rfl fn_slices_Index_api_Dot_api_Dot ?_
  have h1 := index_loop l hl d h h.length l.length 0 (by omega)
  rw [List.drop_zero, show ((0 : Nat) : Int) = 0 from rfl] at h1
  cases hf : l.findIdx? (fun x => decide (d = x)) with
  | none => rw [hf] at h1; simp [c_slices_Index_api_Dot_api_Dot, h1, idxV]
  | some i => rw [hf] at h1; simp [c_slices_Index_api_Dot_api_Dot, h1, idxV]
theorem contains_eq (l : List Dot) (hl : l.length ≤ 4611686018427387904) (d : Dot) (h : Heap) :
    callL E F.slices_Contains_api_Dot_api_Dot [.sl (l.map Dot.v), d.v] h = some (.bool (decide (d ∈ l)), h, .no) := by
  refine callL_of rfl fn_slices_Contains_api_Dot_api_Dot ?_
  have h1 := index_eq l hl d (h ++ [.cells d.c []])
  have h2 : (l.findIdx? fun x => decide (d = x)).isSome = decide (d ∈ l) := by
    rw [List.findIdx?_isSome]
    rw [Bool.eq_iff_iff]
    simp
  simp [c_slices_Contains_api_Dot_api_Dot, h1, idx_ge, h2]

def dotsOf (l : List Val) : List Dot := l.map Val.dot
theorem dots_loop (l : List Val) (hl : l.length ≤ 1099511627776) (h : Heap) (fb : Nat) (hfb : fb ≤ h.length) : ∀ (k j : Nat), j + k = l.length →
    loopRun (callL E) loopL fb [3, 7, 8, 9] c_digest_dots_l0 ⟨[(3, .sl ((dotsOf (l.take j)).map Dot.v)), (7, .sl (l.map Val.v)), (8, .int .i64 l.length), (9, .int .i64 j)], h, .no⟩ =
      some (.exit 0, ⟨[(3, .sl ((dotsOf l).map Dot.v)), (7, .sl (l.map Val.v)), (8, .int .i64 l.length), (9, .int .i64 l.length), (10, .bool false)], h, .no⟩) := by
  intro k
  induction k with
  | zero =>
    intro j hj
    have : j = l.length := by omega
    subst this
    rw [List.take_length]
    refine loop_exit ?_
    rw [s_round]
    simp [c_digest_dots_l0]
  | succ k ih =>
    intro j hj
    have hlt : (j : Int) < (l.length : Int) := by omega
    obtain ⟨x, hx, hd, hm⟩ := get_of_lt (l := l) (i := j) (by omega)
    have h1 := i64_add1 (n := j) (by omega)
    have h3 := ih (j + 1) (by omega)
    have h4 : (dotsOf (l.take (j + 1))).map Dot.v = (dotsOf (l.take j)).map Dot.v ++ [.agg x.dot.c] := by rw [List.take_add_one, hx]; simp [dotsOf]
    have h5 : ((dotsOf (l.take j)).map Dot.v).length = j := by simp [dotsOf]; omega
    have h6 : (j + 1) * 16 ≤ 140737488355328 := by omega
    have hdr : x.c.drop 4 = [] := rfl
    rw [h4] at h3
    have hsz : sizeOk 2 ((dotsOf (l.take j)).map Dot.v) = true := sizeOk_dots _
    generalize (dotsOf (l.take j)).map Dot.v = q at h3 h5 hsz ⊢
    refine loop_next ?_ h3
    rw [s_round]
    simp [-getElem?_pos, c_digest_dots_l0, hlt, hx, h1, h5, h6, hsz, hfb]
theorem dots_eq (s : Sib) (hl : s.vals.length ≤ 1099511627776) (h : Heap) : callL E F.digest_dots [s.v] h = some (.sl ((dotsOf s.vals).map Dot.v), h, .no) := by
  refine callL_of rfl fn_digest_dots ?_
  have h1 := dots_loop s.vals hl (h ++ [.cells s.c []]) h.length (by simp) s.vals.length 0 (by omega)
  rw [List.take_zero, show ((0 : Nat) : Int) = 0 from rfl, show (dotsOf []).map Dot.v = [] from rfl] at h1
  simp [-getElem?_pos, c_digest_dots, h1]

/-- Would the one who told a digest change by an entry? -/
def lacks (e : Ent) (d : Dig) : Bool := !decide (e.key = d.key) || (!e.sib.seen.leq d.seen || d.dots.any fun x => e.sib.seen.covers x && !decide (x ∈ dotsOf e.sib.vals))
theorem lacksC_eq (e : Ent) (m : List Dot) (hm : m.length ≤ 1099511627776) (d : Dot) (h : Heap) (i j : Nat) (hi : hget h i = some (.cells e.c [])) (hj : hget h j = some (.cells [.sl (m.map Dot.v)] [])) :
    callL E F.digest_Lacks_c1 [d.v, .ptr (some (i, 0)), .ptr (some (j, 0))] h = some (.bool (e.sib.seen.covers d && !decide (d ∈ m)), h, .no) := by
  refine callL_of rfl fn_digest_Lacks_c1 ?_
  have hil := hget_lt hi
  have hjl := hget_lt hj
  have h1 := covers_eq e.sib.seen d (h ++ [.cells d.c []])
  have h2 := contains_eq m (by omega) d (h ++ [.cells d.c []])
  have gi : hget (h ++ [.cells d.c []]) i = some (.cells e.c []) := by rw [hget_app hil]; exact hi
  have gj : hget (h ++ [.cells d.c []]) j = some (.cells [.sl (m.map Dot.v)] []) := by rw [hget_app hjl]; exact hj
  have h3 : (e.c.drop 1).take 8 = e.sib.seen.c := by simp
  simp only [List.drop_one, Ent.c_tail] at h3
  cases hc : e.sib.seen.covers d <;> rw [hc] at h1 <;> simp [-getElem?_pos, c_digest_Lacks_c1, gi, gj, h1, h2]
theorem lacks_eq (e : Ent) (d : Dig) (he : e.sib.vals.length ≤ 1099511627776) (hd : d.dots.length ≤ 1099511627776) (h : Heap) : callL E F.digest_Lacks [e.v, d.v] h = some (.bool (lacks e d), h, .no) := by
  refine callL_of rfl fn_digest_Lacks ?_
  have h1 := vecLeq_eq e.sib.seen d.seen (h ++ [.cells e.c [], .cells d.c []])
  have h2 := dots_eq e.sib he (h ++ [.cells e.c [], .cells d.c []])
  have h3 := containsFunc_eq d.dots (by omega) F.digest_Lacks_c1 [.ptr (some (h.length, 0)), .ptr (some (h.length + 2, 0))] (fun x => e.sib.seen.covers x && !decide (x ∈ dotsOf e.sib.vals)) (h ++ [.cells e.c [], .cells d.c [], .cells [.sl ((dotsOf e.sib.vals).map Dot.v)] []])
    (fun x _ => lacksC_eq e (dotsOf e.sib.vals) (by simp [dotsOf]; omega) x _ _ _ (by simp) (by simp)) (by simp)
  unfold lacks
  by_cases hk : e.key = d.key
  · cases hq : e.sib.seen.leq d.seen <;> rw [hq] at h1 <;> simp [-getElem?_pos, c_digest_Lacks, hk, h1, h2, h3]
  · have hk' : (e.key == d.key) = false := by simpa using hk
    simp [-getElem?_pos, c_digest_Lacks, hk, hk']
/-- Do digests lack an entry? -/
def lacked (e : Ent) (ds : List Dig) : Bool :=
  match ds.findIdx? fun d => d.key == e.key with
  | none => true
  | some i => lacks e (ds[i]?.getD ⟨[], ⟨List.replicate 8 0, rfl⟩, []⟩)
theorem lackedC_eq (e : Ent) (d : Dig) (h : Heap) (i : Nat) (hi : hget h i = some (.cells e.c [])) :
    callL E F.digest_lacked_c1 [d.v, .ptr (some (i, 0))] h = some (.bool (d.key == e.key), h, .no) := by
  refine callL_of rfl fn_digest_lacked_c1 ?_
  have hil := hget_lt hi
  have gi : hget (h ++ [.cells d.c []]) i = some (.cells e.c []) := by rw [hget_app hil]; exact hi
  simp [-getElem?_pos, c_digest_lacked_c1, gi]
theorem lacked_eq (e : Ent) (ds : List Dig) (he : e.sib.vals.length ≤ 1099511627776) (hd : ds.length ≤ 1099511627776) (hds : ∀ d ∈ ds, d.dots.length ≤ 1099511627776) (h : Heap) : callL E F.digest_lacked [e.v, .sl (ds.map Dig.v)] h = some (.bool (lacked e ds), h, .no) := by
  refine callL_of rfl fn_digest_lacked ?_
  have h1 := slices_IndexFunc_api_Digest_api_Digest_eq ds (by omega) F.digest_lacked_c1 [.ptr (some (h.length, 0))] (fun d => d.key == e.key) (h ++ [.cells e.c []]) (fun x _ => lackedC_eq e x _ _ (by simp)) (by simp)
  unfold lacked
  cases hf : ds.findIdx? (fun d => d.key == e.key) with
  | none =>
    rw [hf] at h1
    simp [-getElem?_pos, c_digest_lacked, h1, idxV]
  | some i =>
    rw [hf] at h1
    have hlt : i < ds.length := by
      have := List.findIdx?_eq_some_iff_findIdx_eq.1 hf
      exact this.1
    obtain ⟨d, hx, _, hm⟩ := get_of_lt hlt
    have h2 := lacks_eq e d he (hds d hm) (h ++ [.cells e.c []])
    have h0 : ¬ ((i : Int) < 0) := by omega
    simp [-getElem?_pos, c_digest_lacked, h1, idxV, hx, h2, h0]
end Go.Proofs.Ytphlgefkcghopaa.V
