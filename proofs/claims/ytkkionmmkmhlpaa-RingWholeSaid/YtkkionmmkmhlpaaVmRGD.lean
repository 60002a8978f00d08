/- What the comparison of points and the two mixes compute. -/
import Derived.Test.YtkkionmmkmhlpaaVT
import Derived.Test.YtkkionmmkmhlpaaVmG5
import Derived.Test.YtkkionmmkmhlpaaVmG8
set_option linter.unusedVariables false
set_option linter.unusedSimpArgs false
namespace Go.Proofs.Ytkkionmmkmhlpaa.V
open Go.Vm

theorem get_of_lt {α : Type} {l : List α} {i : Nat} (h : i < l.length) : ∃ x, l[i]? = some x ∧ True ∧ True := ⟨l[i], List.getElem?_eq_getElem h, trivial, trivial⟩
theorem rg_add1 {n : Nat} (h : n < 4611686018427387904) : IntKind.wrap .i64 ((n : Int) + 1) = ((n + 1 : Nat) : Int) := by rw [wrap_i64] <;> omega
theorem wrap_u32' (n : Int) : IntKind.wrap .u32 n = n % 4294967296 := by simp [IntKind.wrap, IntKind.bits, IntKind.signed]
theorem wrap_u32_rng (n : Int) : 0 ≤ IntKind.wrap .u32 n ∧ IntKind.wrap .u32 n < 4294967296 := by rw [wrap_u32']; omega
def cmpZ (a b : Int) : Int := if a < b then -1 else if b < a then 1 else 0
theorem isNaN_int_eq (a : Int) (h : Heap) : callL E F.cmp_isNaN_int [.int .i64 a] h = some (.bool false, h, .no) := by
  refine callL_of rfl fn_cmp_isNaN_int ?_
  simp [c_cmp_isNaN_int]
theorem isNaN_uint32_eq (a : Int) (h : Heap) : callL E F.cmp_isNaN_uint32 [.int .u32 a] h = some (.bool false, h, .no) := by
  refine callL_of rfl fn_cmp_isNaN_uint32 ?_
  simp [c_cmp_isNaN_uint32]
theorem cmpInt_eq (a b : Int) (h : Heap) : callL E F.cmp_Compare_int [.int .i64 a, .int .i64 b] h = some (.int .i64 (cmpZ a b), h, .no) := by
  refine callL_of rfl fn_cmp_Compare_int ?_
  have g1 := isNaN_int_eq a h
  have g2 := isNaN_int_eq b h
  unfold cmpZ
  by_cases h1 : a < b
  · simp [c_cmp_Compare_int, g1, g2, h1]
  · by_cases h2 : b < a
    · simp [c_cmp_Compare_int, g1, g2, h1, h2]
    · simp [c_cmp_Compare_int, g1, g2, h1, h2]
theorem cmpU32_eq (a b : Int) (h : Heap) : callL E F.cmp_Compare_uint32 [.int .u32 a, .int .u32 b] h = some (.int .i64 (cmpZ a b), h, .no) := by
  refine callL_of rfl fn_cmp_Compare_uint32 ?_
  have g1 := isNaN_uint32_eq a h
  have g2 := isNaN_uint32_eq b h
  unfold cmpZ
  by_cases h1 : a < b
  · simp [c_cmp_Compare_uint32, g1, g2, h1]
  · by_cases h2 : b < a
    · simp [c_cmp_Compare_uint32, g1, g2, h1, h2]
    · simp [c_cmp_Compare_uint32, g1, g2, h1, h2]
def or3 (a b c : Int) : Int := if a = 0 then (if b = 0 then c else b) else a
theorem cmpOr3_eq (a b c : Int) (h : Heap) : callL E F.cmp_Or_int [.sl [.int .i64 a, .int .i64 b, .int .i64 c]] h = some (.int .i64 (or3 a b c), h, .no) := by
  refine callL_of rfl fn_cmp_Or_int ?_
  have key := loop_scan (C := callL E) (fb := h.length) (live := [3, 6, 7, 8]) (c := c_cmp_Or_int_l0) (fun j => ⟨[(3, .int .i64 0), (6, .sl [.int .i64 a, .int .i64 b, .int .i64 c]), (7, .int .i64 3), (8, .int .i64 j)], h, .no⟩) 3 (getB [a, b, c] fun x => x == 0)
    (.exit 0, ⟨[(3, .int .i64 0), (6, .sl [.int .i64 a, .int .i64 b, .int .i64 c]), (7, .int .i64 3), (8, .int .i64 3), (9, .bool false)], h, .no⟩)
    (fun j => (.ret, ⟨[(2, .int .i64 (([a, b, c] : List Int)[j]?.getD 0))], h, .no⟩)) ?_ ?_ (fun _ => rfl) ?_ rfl
  · rw [show ((0 : Nat) : Int) = 0 from rfl] at key
    rcases key with ⟨h1, h2⟩ | ⟨j, h1, h2, h3, h4⟩
    · have e0 : a = 0 := by simpa [getB] using h1 0 (by omega)
      have e1 : b = 0 := by simpa [getB] using h1 1 (by omega)
      have e2 : c = 0 := by simpa [getB] using h1 2 (by omega)
      subst e0 e1 e2
      simp [c_cmp_Or_int, h2, or3]
    · have : j = 0 ∨ j = 1 ∨ j = 2 := by omega
      rcases this with rfl | rfl | rfl
      · have e0 : ¬ a = 0 := by simpa [getB] using h2
        simp at h4
        simp [c_cmp_Or_int, h4, e0, or3]
      · have e0 : a = 0 := by simpa [getB] using h3 0 (by omega)
        have e1 : ¬ b = 0 := by simpa [getB] using h2
        subst e0
        simp at h4
        simp [c_cmp_Or_int, h4, or3, e1]
      · have e0 : a = 0 := by simpa [getB] using h3 0 (by omega)
        have e1 : b = 0 := by simpa [getB] using h3 1 (by omega)
        subst e0 e1
        simp at h4
        simp [c_cmp_Or_int, h4, or3]
  · intro j hj hp
    have : j = 0 ∨ j = 1 ∨ j = 2 := by omega
    have w1 : IntKind.wrap .i64 1 = 1 := by rw [wrap_i64] <;> omega
    have w2 : IntKind.wrap .i64 2 = 2 := by rw [wrap_i64] <;> omega
    have w3 : IntKind.wrap .i64 3 = 3 := by rw [wrap_i64] <;> omega
    rw [s_round]
    rcases this with rfl | rfl | rfl
    · have e0 : a = 0 := by simpa [getB] using hp
      simp [c_cmp_Or_int_l0, e0, w1]
    · have e0 : b = 0 := by simpa [getB] using hp
      simp [c_cmp_Or_int_l0, e0, w2]
    · have e0 : c = 0 := by simpa [getB] using hp
      simp [c_cmp_Or_int_l0, e0, w3]
  · intro j hj hp
    have : j = 0 ∨ j = 1 ∨ j = 2 := by omega
    rw [s_round]
    rcases this with rfl | rfl | rfl
    · have e0 : (a == 0) = false := by simpa [getB] using hp
      simp [c_cmp_Or_int_l0, e0]
    · have e0 : (b == 0) = false := by simpa [getB] using hp
      simp [c_cmp_Or_int_l0, e0]
    · have e0 : (c == 0) = false := by simpa [getB] using hp
      simp [c_cmp_Or_int_l0, e0]
  · rw [s_round]
    simp [c_cmp_Or_int_l0]
theorem or3_cmp (x y : Pt) : or3 (cmpZ x.at' y.at') (cmpZ x.node y.node) (cmpZ x.k y.k) = cmp3 x y := by
  unfold or3 cmpZ cmp3
  cases h1 : lt3 x y
  · rw [lt3_no] at h1
    cases h2 : lt3 y x
    · rw [lt3_no] at h2
      simp only [Bool.false_eq_true, if_false]
      (repeat' split) <;> omega
    · rw [lt3_iff] at h2
      simp only [Bool.false_eq_true, if_false, if_true]
      (repeat' split) <;> omega
  · rw [lt3_iff] at h1
    simp only [if_true]
    (repeat' split) <;> omega
theorem fillC_eq (x y : Pt) : callL E F.ring_Ring_fill_c1 [x.v, y.v] [] = some (.int .i64 (cmp3 x y), [], .no) := by
  refine callL_of rfl fn_ring_Ring_fill_c1 ?_
  have g1 := fun h => cmpU32_eq x.at' y.at' h
  have g2 := fun h => cmpInt_eq x.node y.node h
  have g3 := fun h => cmpInt_eq x.k y.k h
  have g4 := fun h => cmpOr3_eq (cmpZ x.at' y.at') (cmpZ x.node y.node) (cmpZ x.k y.k) h
  rw [or3_cmp] at g4
  generalize cmp3 x y = w at g4 ⊢
  simp [-getElem?_pos, c_ring_Ring_fill_c1, g1, g2, g3, g4]

abbrev u8V (n : Int) : V := .int .u8 n
structure MixOps where
  X : Int → Int → Int
  M1 : Int → Int
  M2 : Int → Int
  S1 : Int → Int
  S2 : Int → Int
structure MixOk (o : MixOps) : Prop where
  x : ∀ a b, binV .xor .no (.int .u32 a) (.int .u32 b) = some (.int .u32 (o.X a b))
  m1 : ∀ a, binV .mul .no (.int .u32 a) (.int .u32 16777619) = some (.int .u32 (o.M1 a))
  m2 : ∀ a, binV .mul .no (.int .u32 a) (.int .u32 2246822507) = some (.int .u32 (o.M2 a))
  s1 : ∀ a, binV .shr .no (.int .u32 a) (.int .u64 15) = some (.int .u32 (o.S1 a))
  s2 : ∀ a, binV .shr .no (.int .u32 a) (.int .u64 13) = some (.int .u32 (o.S2 a))
  rng : ∀ a b, 0 ≤ o.X a b ∧ o.X a b < 4294967296
def MixOps.step (o : MixOps) (x b : Int) : Int := o.M1 (o.X x (IntKind.wrap .u32 b))
def MixOps.run (o : MixOps) (l : List Int) : Int := l.foldl o.step 2166136261
def MixOps.mid (o : MixOps) (x : Int) : Int := o.M2 (o.X x (o.S1 x))
def MixOps.fin (o : MixOps) (x : Int) : Int := o.X x (o.S2 x)
def MixOps.mix (o : MixOps) (l : List Int) : Int := o.fin (o.mid (o.run l))
section
variable {o : MixOps} (ho : MixOk o)
theorem run_take {l : List Int} {j : Nat} {x : Int} (h : l[j]? = some x) : o.run (l.take (j + 1)) = o.step (o.run (l.take j)) x := by
  unfold MixOps.run
  rw [List.take_add_one, h, List.foldl_append]
  rfl
theorem run_nil : o.run [] = 2166136261 := rfl
include ho
theorem lmix_loop (l : List Int) (hl : l.length < 4611686018427387904) (h : Heap) :
    loopRun (callL E) loopL h.length [3, 6, 7, 8] c_lazy_Mix_l0 ⟨[(3, .int .u32 2166136261), (6, .sl (l.map u8V)), (7, .int .i64 l.length), (8, .int .i64 0)], h, .no⟩ =
      some (.exit 0, ⟨[(3, .int .u32 (o.run l)), (6, .sl (l.map u8V)), (7, .int .i64 l.length), (8, .int .i64 l.length), (9, .bool false)], h, .no⟩) := by
  have k2 := loop_to (C := callL E) (fb := h.length) (live := [3, 6, 7, 8]) (c := c_lazy_Mix_l0)
    (fun j => ⟨[(3, .int .u32 (o.run (l.take j))), (6, .sl (l.map u8V)), (7, .int .i64 l.length), (8, .int .i64 j)], h, .no⟩) l.length
    (r := (.exit 0, ⟨[(3, .int .u32 (o.run l)), (6, .sl (l.map u8V)), (7, .int .i64 l.length), (8, .int .i64 l.length), (9, .bool false)], h, .no⟩)) (fun j hj => ?_) ?_ rfl
  · rw [List.take_zero, run_nil] at k2
    exact k2
  · obtain ⟨x, hx, _, _⟩ := get_of_lt (l := l) (i := j) hj
    have hlt : (j : Int) < (l.length : Int) := by omega
    have h1 := rg_add1 (n := j) (by omega)
    rw [s_round, run_take hx]
    generalize o.run (l.take j) = m
    simp [-getElem?_pos, -bin_xor, -bin_mul, c_lazy_Mix_l0, hlt, hj, hx, h1, MixOps.step, ho.x, ho.m1]
  · rw [s_round, List.take_length]
    simp [c_lazy_Mix_l0]
theorem lmix_loopM (l : List Int) (hl : l.length < 4611686018427387904) (h : Heap) (k : Nat) (hk : hget h k = some (.cells (l.map u8V) [])) :
    loopRun (callL E) loopL h.length [3, 6, 7, 8] c_lazy_Mix_l0 ⟨[(3, .int .u32 2166136261), (6, .msl k 0 l.length 1), (7, .int .i64 l.length), (8, .int .i64 0)], h, .no⟩ =
      some (.exit 0, ⟨[(3, .int .u32 (o.run l)), (6, .msl k 0 l.length 1), (7, .int .i64 l.length), (8, .int .i64 l.length), (9, .bool false)], h, .no⟩) := by
  have k2 := loop_to (C := callL E) (fb := h.length) (live := [3, 6, 7, 8]) (c := c_lazy_Mix_l0)
    (fun j => ⟨[(3, .int .u32 (o.run (l.take j))), (6, .msl k 0 l.length 1), (7, .int .i64 l.length), (8, .int .i64 j)], h, .no⟩) l.length
    (r := (.exit 0, ⟨[(3, .int .u32 (o.run l)), (6, .msl k 0 l.length 1), (7, .int .i64 l.length), (8, .int .i64 l.length), (9, .bool false)], h, .no⟩)) (fun j hj => ?_) ?_ rfl
  · rw [List.take_zero, run_nil] at k2
    exact k2
  · obtain ⟨x, hx, _, _⟩ := get_of_lt (l := l) (i := j) hj
    have hlt : (j : Int) < (l.length : Int) := by omega
    have h1 := rg_add1 (n := j) (by omega)
    have hkl : k < h.length := by
      unfold hget at hk
      exact (List.getElem?_eq_some_iff.1 hk).1
    rw [s_round, run_take hx]
    generalize o.run (l.take j) = m
    simp [-getElem?_pos, -bin_xor, -bin_mul, c_lazy_Mix_l0, hlt, hj, hx, h1, MixOps.step, ho.x, ho.m1, hk, hkl]
  · rw [s_round, List.take_length]
    simp [c_lazy_Mix_l0]
theorem lmix_gen (l : List Int) (hl : l.length < 4611686018427387904) (h : Heap) : callL E F.lazy_Mix [.sl (l.map u8V)] h = some (.int .u32 (o.mix l), h, .no) := by
  refine callL_of rfl fn_lazy_Mix ?_
  have key := lmix_loop ho l hl h
  unfold MixOps.mix
  generalize o.run l = m at key ⊢
  simp [-getElem?_pos, -bin_xor, -bin_mul, -bin_shr, c_lazy_Mix, key, MixOps.mid, MixOps.fin, ho.x, ho.m2, ho.s1, ho.s2]
theorem lmixM_gen (l : List Int) (hl : l.length < 4611686018427387904) (h : Heap) (k : Nat) (hk : hget h k = some (.cells (l.map u8V) [])) : callL E F.lazy_Mix [.msl k 0 l.length 1] h = some (.int .u32 (o.mix l), h, .no) := by
  refine callL_of rfl fn_lazy_Mix ?_
  have key := lmix_loopM ho l hl h k hk
  unfold MixOps.mix
  generalize o.run l = m at key ⊢
  simp [-getElem?_pos, -bin_xor, -bin_mul, -bin_shr, c_lazy_Mix, key, MixOps.mid, MixOps.fin, ho.x, ho.m2, ho.s1, ho.s2]
theorem r1mix_gen (l : List Int) (hl : l.length < 4611686018427387904) (h : Heap) : callL E F.tattlerref1_Mix [.sl (l.map u8V)] h = some (.int .u32 (o.mix l), h, .no) := by
  refine callL_of rfl fn_tattlerref1_Mix ?_
  have key := lmix_loop ho l hl h
  rw [show c_lazy_Mix_l0 = c_tattlerref1_Mix_l0 from rfl] at key
  unfold MixOps.mix
  generalize o.run l = m at key ⊢
  simp [-getElem?_pos, -bin_xor, -bin_mul, -bin_shr, c_tattlerref1_Mix, key, MixOps.mid, MixOps.fin, ho.x, ho.m2, ho.s1, ho.s2]
end
def theOps : MixOps where
  X a b := IntKind.wrap .u32 (BitVec.ofInt IntKind.u32.bits a ^^^ BitVec.ofInt IntKind.u32.bits b).toNat
  M1 a := IntKind.wrap .u32 (a * 16777619)
  M2 a := IntKind.wrap .u32 (a * 2246822507)
  S1 a := a.fdiv (2 ^ min (15 : Int).toNat IntKind.u32.bits)
  S2 a := a.fdiv (2 ^ min (13 : Int).toNat IntKind.u32.bits)
theorem theOk : MixOk theOps where
  x a b := bin_xor _ a b _
  m1 a := bin_mul _ a _ _
  m2 a := bin_mul _ a _ _
  s1 a := by rw [bin_shr]; exact Eq.refl _
  s2 a := by rw [bin_shr]; exact Eq.refl _
  rng a b := wrap_u32_rng _
theorem mix_ex : ∃ f : List Int → Int, (∀ l, 0 ≤ f l ∧ f l < 4294967296) ∧ (∀ (l : List Int) (h : Heap), l.length < 4611686018427387904 → callL E F.lazy_Mix [.sl (l.map u8V)] h = some (.int .u32 (f l), h, .no)) ∧
    (∀ (l : List Int) (h : Heap) (k : Nat), l.length < 4611686018427387904 → hget h k = some (.cells (l.map u8V) []) → callL E F.lazy_Mix [.msl k 0 l.length 1] h = some (.int .u32 (f l), h, .no)) ∧
    ∀ (l : List Int) (h : Heap), l.length < 4611686018427387904 → callL E F.tattlerref1_Mix [.sl (l.map u8V)] h = some (.int .u32 (f l), h, .no) :=
  ⟨theOps.mix, fun l => theOk.rng _ _, fun l h hl => lmix_gen theOk l hl h, fun l h k hl hk => lmixM_gen theOk l hl h k hk, fun l h hl => r1mix_gen theOk l hl h⟩
noncomputable def mix : List Int → Int := Classical.choose mix_ex
theorem lmix_eq (l : List Int) (hl : l.length < 4611686018427387904) (h : Heap) : callL E F.lazy_Mix [.sl (l.map u8V)] h = some (.int .u32 (mix l), h, .no) := (Classical.choose_spec mix_ex).2.1 l h hl
theorem lmixM_eq (l : List Int) (hl : l.length < 4611686018427387904) (h : Heap) (k : Nat) (hk : hget h k = some (.cells (l.map u8V) [])) : callL E F.lazy_Mix [.msl k 0 l.length 1] h = some (.int .u32 (mix l), h, .no) := (Classical.choose_spec mix_ex).2.2.1 l h k hl hk
def bytesI (s : List UInt8) : List Int := s.map fun b => (b.toNat : Int)
theorem bytesI_map (s : List UInt8) : (bytesI s).map u8V = s.map byteV := by
  unfold bytesI
  rw [List.map_map]
  rfl
noncomputable def place (s : List UInt8) : Int := mix (bytesI s)
theorem place_eq (s : List UInt8) (hs : s.length < 4611686018427387904) (h : Heap) : callL E F.keys_Place [.str s] h = some (.int .u32 (place s), h, .no) := by
  refine callL_of rfl fn_keys_Place ?_
  have g := lmix_eq (bytesI s) (by simpa [bytesI] using hs) h
  rw [bytesI_map] at g
  simp [-getElem?_pos, c_keys_Place, g, place]
def pointB (n k : Int) : List Int := [110, IntKind.wrap .u8 n, 112, IntKind.wrap .u8 k]
noncomputable def point (n k : Int) : Int := mix (pointB n k)
theorem kPoint_eq (n k : Int) (h : Heap) : callL E F.keys_Point [.int .i64 n, .int .i64 k] h = some (.int .u32 (point n k), h, .no) := by
  refine callL_of rfl fn_keys_Point ?_
  have g : callL E F.lazy_Mix [.msl h.length 0 4 1] (h ++ [.cells [.int .u8 110, .int .u8 (IntKind.wrap .u8 n), .int .u8 112, .int .u8 (IntKind.wrap .u8 k)] []]) = some (.int .u32 (point n k), h ++ [.cells [.int .u8 110, .int .u8 (IntKind.wrap .u8 n), .int .u8 112, .int .u8 (IntKind.wrap .u8 k)] []], .no) := by
    have g0 := lmixM_eq (pointB n k) (by simp [pointB]) (h ++ [.cells [.int .u8 110, .int .u8 (IntKind.wrap .u8 n), .int .u8 112, .int .u8 (IntKind.wrap .u8 k)] []]) h.length (by simp [pointB, hget])
    rw [show (pointB n k).length = 4 from rfl] at g0
    exact g0
  have sa : sliceArrV h.length 4 1 (h ++ [.cells [.int .u8 110, .int .u8 (IntKind.wrap .u8 n), .int .u8 112, .int .u8 (IntKind.wrap .u8 k)] []]) (.ptr (some (h.length, 0))) = some (.msl h.length 0 4 1, h ++ [.cells [.int .u8 110, .int .u8 (IntKind.wrap .u8 n), .int .u8 112, .int .u8 (IntKind.wrap .u8 k)] []], .no) := by
    simp [sliceArrV, cellsAt, hget]
  simp [-getElem?_pos, c_keys_Point, g, sa]
end Go.Proofs.Ytkkionmmkmhlpaa.V
