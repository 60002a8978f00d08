/- What 'hints.Set.find' computes. -/
import Derived.Test.YthkfjefoblmbhaaVmSD
import Derived.Test.YthkfjefoblmbhaaVmSM
import Derived.Test.YthkfjefoblmbhaaVmKS
import Derived.Test.YthkfjefoblmbhaaVmKB1
import Derived.Test.YthkfjefoblmbhaaVmTB
import Derived.Test.YthkfjefoblmbhaaVmHD
set_option linter.unusedVariables false
set_option linter.unusedSimpArgs false
namespace Go.Proofs.Ythkfjefoblmbhaa.V
open Go.Vm

def cmpB (a b : List UInt8) : Int := if bytesLess a b then -1 else if a = b then 0 else 1
def hlt (x : Hnt) (n : Int) (k : List UInt8) : Bool := decide (x.node < n) || (decide (x.node = n) && bytesLess x.key k)
def heq (x : Hnt) (n : Int) (k : List UInt8) : Bool := decide (x.node = n) && decide (x.key = k)
def hcmp (a b : Hnt) : Int := if cmpI a.node b.node = 0 then cmpB a.key b.key else cmpI a.node b.node
theorem hcmp_lt (a b : Hnt) : decide (hcmp a b < 0) = hlt a b.node b.key := by
  unfold hcmp cmpI cmpB hlt
  by_cases h1 : a.node < b.node
  · simp [h1]
  · by_cases h2 : b.node < a.node
    · have : ¬ a.node = b.node := by omega
      simp [h1, h2, this]
    · have : a.node = b.node := by omega
      cases h3 : bytesLess a.key b.key
      · by_cases h4 : a.key = b.key <;> simp [h1, h2, this, h3, h4]
      · simp [h1, h2, this, h3]
theorem hcmp_eq (a b : Hnt) : (hcmp a b == 0) = heq a b.node b.key := by
  unfold hcmp cmpI cmpB heq
  by_cases h1 : a.node < b.node
  · have : ¬ a.node = b.node := by omega
    simp [h1, this]
  · by_cases h2 : b.node < a.node
    · have : ¬ a.node = b.node := by omega
      simp [h1, h2, this]
    · have : a.node = b.node := by omega
      cases h3 : bytesLess a.key b.key
      · by_cases h4 : a.key = b.key <;> simp [h1, h2, this, h3, h4]
      · have h4 : ¬ a.key = b.key := fun e => by rw [e, bytesLess_irrefl] at h3; cases h3
        simp [h1, h2, this, h3, h4]
theorem isNaN_string_eq (a : List UInt8) (h : Heap) : callL E F.cmp_isNaN_string [.str a] h = some (.bool false, h, .no) := by
  refine callL_of rfl fn_cmp_isNaN_string ?_
  simp [c_cmp_isNaN_string]
theorem cmpStr_eq (a b : List UInt8) (h : Heap) : callL E F.cmp_Compare_string [.str a, .str b] h = some (.int .i64 (cmpB a b), h, .no) := by
  refine callL_of rfl fn_cmp_Compare_string ?_
  have g := fun x => isNaN_string_eq x h
  unfold cmpB
  cases h1 : bytesLess a b
  · by_cases h2 : a = b
    · subst h2
      simp [c_cmp_Compare_string, g, h1]
    · have h3 : (a == b) = false := by simpa using h2
      simp [c_cmp_Compare_string, g, h1, h2, h3]
  · simp [c_cmp_Compare_string, g, h1]
theorem findCmp_eq (a b : Hnt) (h : Heap) : callL E F.hints_Set_find_c1 [a.v, b.v] h = some (.int .i64 (hcmp a b), h, .no) := by
  refine callL_of rfl fn_hints_Set_find_c1 ?_
  have g1 := fun x y l => cmpInt_eq x y (h ++ l)
  have g2 := fun x y l => cmpStr_eq x y (h ++ l)
  have g3 := fun x y l => cmpOr_eq x y (h ++ l)
  have hh : hcmp a b = if cmpI a.node b.node = 0 then cmpB a.ent.key b.ent.key else cmpI a.node b.node := rfl
  rw [hh]
  simp [-getElem?_pos, c_hints_Set_find_c1, g1, g2, g3]

structure CutAt (l : List Hnt) (n : Int) (k : List UInt8) (p : Nat) : Prop where
  le : p ≤ l.length
  lt : ∀ (j : Nat) (x : Hnt), l[j]? = some x → hlt x n k = decide (j < p)
def foundAt (l : List Hnt) (n : Int) (k : List UInt8) (p : Nat) : Bool :=
  match l[p]? with
  | some x => heq x n k
  | none => false
theorem half_eq {i j : Nat} (h : i + j < 4611686018427387904) : IntKind.wrap .i64 (Int.fdiv (IntKind.wrap .u64 (IntKind.wrap .i64 ((i : Int) + (j : Int)))) (2 ^ min 1 IntKind.u64.bits)) = (((i + j) / 2 : Nat) : Int) := by
  have e2 : (2 : Int) ^ min 1 IntKind.u64.bits = 2 := rfl
  rw [e2, wrap_i64 (n := (i : Int) + j) (by omega) (by omega), wrap_u64 (by omega) (by omega), Int.fdiv_eq_ediv_of_nonneg _ (by omega)]
  have : ((i : Int) + (j : Int)) / 2 = (((i + j) / 2 : Nat) : Int) := by omega
  rw [this, wrap_i64 (by omega) (by omega)]
section
variable (l : List Hnt) (hl : l.length ≤ 1000) (t : Hnt) (p : Nat) (hc : CutAt l t.node t.key p) (k : Nat) (h : Heap) (hk : hget h k = some (.cells (l.flatMap Hnt.c) []))
include hl hc hk
theorem bsf_round (i j : Nat) (hi : i < j) (hj : j ≤ l.length) :
    roundV (callL E) loopL h.length [0, 2, 4, 8, 9, 10] c_slices_BinarySearchFunc_api_Hint_api_Hint_api_Hint_l0 ⟨[(0, .msl k 0 l.length 11), (2, .fn F.hints_Set_find_c1 [] []), (4, .ptr (some (h.length, 0))), (8, .int .i64 l.length), (9, .int .i64 i), (10, .int .i64 j)], h ++ [.cells t.c []], .no⟩ =
      some (.normal, ⟨[(0, .msl k 0 l.length 11), (2, .fn F.hints_Set_find_c1 [] []), (4, .ptr (some (h.length, 0))), (8, .int .i64 l.length), (9, .int .i64 (cnd (decide ((i + j) / 2 < p)) ((i + j) / 2 + 1) i : Nat)), (10, .int .i64 (cnd (decide ((i + j) / 2 < p)) j ((i + j) / 2) : Nat))], h ++ [.cells t.c []], .no⟩) := by
  have hm : (i + j) / 2 < l.length := by omega
  obtain ⟨x, hx, _, _⟩ := get_of_lt (l := l) (i := (i + j) / 2) hm
  have hkl := hget_lt hk
  have hka : hget (h ++ [.cells t.c []]) k = some (.cells (l.flatMap Hnt.c) []) := by rw [hget_app hkl]; exact hk
  have hp := flat_part (c := Hnt.c) (z := 11) (fun x => by simp) hx 0 11 (by omega)
  rw [Nat.add_zero, List.drop_zero, Hnt.k_take] at hp
  have hin := flat_in (c := Hnt.c) (z := 11) (fun x => by simp) hm 0 11 (by omega)
  rw [Nat.add_zero] at hin
  have g := fun l' => findCmp_eq x t (h ++ l')
  have hlt2 := hc.lt _ x hx
  have hw := half_eq (i := i) (j := j) (by omega)
  have h1 := i64_add1 (n := (i + j) / 2) (by omega)
  have hij : (i : Int) < (j : Int) := by omega
  have hk1 : k < h.length + 1 := by omega
  have hmn : ((((i + j) / 2 : Nat)) : Int).toNat = (i + j) / 2 := by omega
  rw [s_round]
  have hcl := hcmp_lt x t
  rw [hlt2] at hcl
  generalize l.flatMap Hnt.c = FL at *
  generalize (i + j) / 2 = m at *
  cases hd : decide (m < p) with
  | true =>
    rw [hd] at hcl
    have hc0 : hcmp x t < 0 := of_decide_eq_true hcl
    simp [-getElem?_pos, -Int.toNat_natCast, -Int.natCast_ediv, -Int.natCast_add, c_slices_BinarySearchFunc_api_Hint_api_Hint_api_Hint_l0, hij, hw, h1, hmn, hm, hka, hp, hin, g, hc0, natOf, hk1]
  | false =>
    rw [hd] at hcl
    have hc0 : ¬ hcmp x t < 0 := of_decide_eq_false hcl
    simp [-getElem?_pos, -Int.toNat_natCast, -Int.natCast_ediv, -Int.natCast_add, c_slices_BinarySearchFunc_api_Hint_api_Hint_api_Hint_l0, hij, hw, h1, hmn, hm, hka, hp, hin, g, hc0, natOf, hk1]
theorem bsf_loop : ∀ (d i j : Nat), j - i ≤ d → i ≤ p → p ≤ j → j ≤ l.length →
    loopRun (callL E) loopL h.length [0, 2, 4, 8, 9, 10] c_slices_BinarySearchFunc_api_Hint_api_Hint_api_Hint_l0 ⟨[(0, .msl k 0 l.length 11), (2, .fn F.hints_Set_find_c1 [] []), (4, .ptr (some (h.length, 0))), (8, .int .i64 l.length), (9, .int .i64 i), (10, .int .i64 j)], h ++ [.cells t.c []], .no⟩ =
      some (.exit 0, ⟨[(0, .msl k 0 l.length 11), (2, .fn F.hints_Set_find_c1 [] []), (4, .ptr (some (h.length, 0))), (8, .int .i64 l.length), (9, .int .i64 p), (10, .int .i64 p), (17, .bool false)], h ++ [.cells t.c []], .no⟩)
  | d, i, j, hd, hip, hpj, hj => by
    by_cases hij : i < j
    · match d, hd with
      | 0, hd => omega
      | d + 1, hd =>
        refine loop_next (bsf_round l hl t p hc k h hk i j hij hj) ?_
        by_cases hm : (i + j) / 2 < p
        · rw [decide_eq_true hm]
          exact bsf_loop d _ _ (by simp only [cnd_true]; omega) (by simp only [cnd_true]; omega) (by simp only [cnd_true]; omega) (by simp only [cnd_true]; omega)
        · rw [decide_eq_false hm]
          exact bsf_loop d _ _ (by simp only [cnd_false]; omega) (by simp only [cnd_false]; omega) (by simp only [cnd_false]; omega) (by simp only [cnd_false]; omega)
    · have e1 : i = p := by omega
      have e2 : j = p := by omega
      subst e1 e2
      refine loop_exit ?_
      rw [s_round]
      simp [c_slices_BinarySearchFunc_api_Hint_api_Hint_api_Hint_l0]
theorem bsf_eq : callL E F.slices_BinarySearchFunc_api_Hint_api_Hint_api_Hint [.msl k 0 l.length 11, t.v, .fn F.hints_Set_find_c1 [] []] h = some (.tup [.int .i64 p, .bool (foundAt l t.node t.key p)], h, .no) := by
  refine callL_of rfl fn_slices_BinarySearchFunc_api_Hint_api_Hint_api_Hint ?_
  have key := bsf_loop l hl t p hc k h hk l.length 0 l.length (by omega) (by omega) hc.le (Nat.le_refl _)
  rw [show ((0 : Nat) : Int) = 0 from rfl] at key
  have hkl := hget_lt hk
  have hka : hget (h ++ [.cells t.c []]) k = some (.cells (l.flatMap Hnt.c) []) := by rw [hget_app hkl]; exact hk
  have hle := hc.le
  by_cases hpl : p < l.length
  · obtain ⟨x, hx, _, _⟩ := get_of_lt (l := l) (i := p) hpl
    have hp := flat_part (c := Hnt.c) (z := 11) (fun x => by simp) hx 0 11 (by omega)
    rw [Nat.add_zero, List.drop_zero, Hnt.k_take] at hp
    have hin := flat_in (c := Hnt.c) (z := 11) (fun x => by simp) hpl 0 11 (by omega)
    rw [Nat.add_zero] at hin
    have g := fun l' => findCmp_eq x t (h ++ l')
    have hf : foundAt l t.node t.key p = (hcmp x t == 0) := by unfold foundAt; rw [hx, hcmp_eq]
    have hlt : (p : Int) < (l.length : Int) := by omega
    rw [hf]
    generalize l.flatMap Hnt.c = FL at *
    generalize l.length = n at *
    simp [-getElem?_pos, c_slices_BinarySearchFunc_api_Hint_api_Hint_api_Hint, key, hka, hp, hin, g, hlt, hpl]
  · have hlt : ¬ (p : Int) < (l.length : Int) := by omega
    have hf : foundAt l t.node t.key p = false := by unfold foundAt; rw [List.getElem?_eq_none (by omega)]
    rw [hf]
    generalize l.flatMap Hnt.c = FL at *
    generalize l.length = n at *
    simp [-getElem?_pos, c_slices_BinarySearchFunc_api_Hint_api_Hint_api_Hint, key, hka, hlt]
end
theorem bsf_nil (t : Hnt) (k : Nat) (h : Heap) : callL E F.slices_BinarySearchFunc_api_Hint_api_Hint_api_Hint [.eml k 11, t.v, .fn F.hints_Set_find_c1 [] []] h = some (.tup [.int .i64 0, .bool false], h, .no) := by
  refine callL_of rfl fn_slices_BinarySearchFunc_api_Hint_api_Hint_api_Hint ?_
  have key : loopRun (callL E) loopL h.length [0, 2, 4, 8, 9, 10] c_slices_BinarySearchFunc_api_Hint_api_Hint_api_Hint_l0 ⟨[(0, .eml k 11), (2, .fn F.hints_Set_find_c1 [] []), (4, .ptr (some (h.length, 0))), (8, .int .i64 0), (9, .int .i64 0), (10, .int .i64 0)], h ++ [.cells t.c []], .no⟩ =
      some (.exit 0, ⟨[(0, .eml k 11), (2, .fn F.hints_Set_find_c1 [] []), (4, .ptr (some (h.length, 0))), (8, .int .i64 0), (9, .int .i64 0), (10, .int .i64 0), (17, .bool false)], h ++ [.cells t.c []], .no⟩) := by
    refine loop_exit ?_
    rw [s_round]
    simp [c_slices_BinarySearchFunc_api_Hint_api_Hint_api_Hint_l0]
  simp [-getElem?_pos, c_slices_BinarySearchFunc_api_Hint_api_Hint_api_Hint, key]

theorem cut_nil {n : Int} {k : List UInt8} {p : Nat} (hc : CutAt [] n k p) : p = 0 := by have := hc.le; simpa using this
theorem bsf_any (l : List Hnt) (hl : l.length ≤ 1000) (t : Hnt) (p : Nat) (hc : CutAt l t.node t.key p) (k : Nat) (h : Heap) (hk : hget h k = some (lO l)) :
    callL E F.slices_BinarySearchFunc_api_Hint_api_Hint_api_Hint [lV k l.length, t.v, .fn F.hints_Set_find_c1 [] []] h = some (.tup [.int .i64 p, .bool (foundAt l t.node t.key p)], h, .no) := by
  cases l with
  | nil =>
    have := cut_nil hc
    subst this
    exact bsf_nil t k h
  | cons x l =>
    rw [lO_pos (by simp)] at hk
    rw [lV_pos k (by simp)]
    exact bsf_eq (x :: l) hl t p hc k h hk
end Go.Proofs.Ythkfjefoblmbhaa.V
