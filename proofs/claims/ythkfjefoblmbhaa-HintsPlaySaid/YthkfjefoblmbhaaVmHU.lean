/- HintsPlay: the law. -/
import Derived.Test.YthkfjefoblmbhaaVmHT
set_option linter.unusedVariables false
set_option linter.unusedSimpArgs false
namespace Go.Proofs.Ythkfjefoblmbhaa.W1
open Go.Vm Go.Proofs.Ythkfjefoblmbhaa.V

theorem HintsPlay_eq (cs : List Cll) (hcs : cs.length ≤ 140737488355328) (n : Int) (h : Heap) : ∃ fl, callL E F.tattlerlaw11_HintsPlay [.sl (cs.map Cll.v), .int .i64 n] h = some (.bool true, h, fl) := by
  obtain ⟨b, g1, hb⟩ := light11_eq cs hcs h
  replace g1 := up_tattlerlaw11_light g1
  have g2 := up_tattlerlaw11_awake (awake11_eq h)
  have g2' := fun L => up_tattlerlaw11_awake (awake11_eq (h ++ L))
  refine ⟨⟨[], [], true⟩, callL_of rfl fn_tattlerlaw11_HintsPlay ?_⟩
  cases b with
  | false => simp [-getElem?_pos, c_tattlerlaw11_HintsPlay, g1, g2]
  | true =>
    obtain ⟨_, hseen⟩ := hb rfl
    have g3 := up_hints_New (hintsNew_eq h)
    have k0 := play_l0 cs hcs hseen n h
    have inv := play_inv cs
    have k1 := play_l1 (playL cs) inv n (h ++ [hsO (playL cs), rsO (playL cs)]) (.ptr (some (h.length, 0))) (.ptr (some (h.length + 1, 0))) (by simp) (by simp) h.length (by simp) (playM cs)
    have hi : hget (h ++ [hsO (playL cs), rsO (playL cs)]) h.length = some (hsO (playL cs)) := by simp
    have gt := thw_hs (fb := h.length) hi
    have e1 : hset (h ++ [hsO (playL cs), rsO (playL cs)]) h.length (.cells [lV (h ++ [hsO (playL cs), rsO (playL cs)]).length (playL cs).length] []) ++ [lO (playL cs)] = h ++ [.cells [lV (h.length + 2) (playL cs).length] [], rsO (playL cs), lO (playL cs)] := by simp
    rw [e1] at gt
    have gf := frz_hs (H := h ++ [.cells [lV (h.length + 2) (playL cs).length] [], rsO (playL cs), lO (playL cs)]) (i := h.length) (k := h.length + 2) (l := playL cs) (by simp) (by simp)
    have e2 : hset (hset (h ++ [Vm.Obj.cells [lV (h.length + 2) (playL cs).length] [], rsO (playL cs), lO (playL cs)]) (h.length + 2) .dead) h.length (rsO (playL cs)) = h ++ [rsO (playL cs), rsO (playL cs), .dead] := by simp
    rw [e2] at gf
    have q1 := fun L => pFirst_eq (h := h ++ rsO (playL cs) :: L) (i := h.length) (l := playL cs) (by simp) inv
    have q2 := fun L => pAll_eq (h := h ++ rsO (playL cs) :: L) (i := h.length) (l := playL cs) (by simp) inv
    have q3 := fun L => pLen_eq (h := h ++ rsO (playL cs) :: L) (i := h.length) (l := playL cs) (by simp) inv
    have q4 := fun L => pFor_eq (h := h ++ rsO (playL cs) :: L) (i := h.length) (l := playL cs) (by simp) inv n
    have s1 := fun H => up_tattlerref5_SameHints (sameHints_self (playL cs) (by have := inv.len; omega) inv.vals H)
    have s2 := fun H => up_tattlerref5_SameEntries (sameEnts_self (forH (playL cs) n) (by have := forH_len (playL cs) n; have := inv.len; omega) (forH_vals inv n) H)
    have hr := rs_lt (playL cs)
    have hr0 : rsO [] = .cells [.sl []] [] := rfl
    have hrp : hget (h ++ [hsO (playL cs), rsO (playL cs)]) (h.length + 1) = some (.cells [.sl ((playL cs).map Hnt.v)] []) := by simp [rsO]
    have hrp2 : ∀ X Y, hget (h ++ X :: rsO (playL cs) :: Y) (h.length + 1) = some (.cells [.sl ((playL cs).map Hnt.v)] []) := fun X Y => by simp [rsO]
    rw [hr0] at k0
    generalize playL cs = S at *
    cases S with
    | nil =>
      have hf0 : (forH [] n).map Ent.v = [] := rfl
      rw [hf0] at q4 s2 k1
      have hz : zeroHnt.v = .agg [.int .i64 0, .str [], .int .i64 0, .int .i64 0, .int .i64 0, .int .i64 0, .int .i64 0, .int .i64 0, .int .i64 0, .int .i64 0, .sl []] := rfl
      simp only [List.map_nil, List.length_nil, List.headD_nil] at gt gf q1 q2 q3 q4 s1 s2 hrp hrp2 k1
      rw [show ((0 : Nat) : Int) = 0 from rfl] at k1
      generalize hsO [] = O0 at *
      generalize rsO [] = R0 at *
      generalize lO [] = L0 at *
      simp [-getElem?_pos, -thwc_ptr, -frzc_ptr, c_tattlerlaw11_HintsPlay, g1, g2', g3, k0, k1, gt, gf, q1, q2, q3, q4, s1, s2, hr, hrp, hrp2]
    | cons a t =>
      have sa := fun H => up_tattlerref5_SameHints (sameHints_self [a] (by simp) (fun x hx => by simp at hx; subst hx; exact inv.vals x (by simp)) H)
      have ht1 : ((a :: t).map Hnt.v).take 1 = [a.v] := rfl
      have hlm : ((a :: t).map Hnt.v).length = (a :: t).length := by simp
      have z1 := sizeOk_hnts (a :: t)
      have h1le : 1 ≤ (a :: t).length := by simp
      have hpos : (0 : Int) < ((a :: t).length : Int) := by rw [List.length_cons]; omega
      have hpos' : 0 < (a :: t).length := by simp
      have sa : ∀ H, callL E F.tattlerref5_SameHints [.sl [a.v], .sl [a.v]] H = some (.bool true, H, .no) := sa
      have q1 : ∀ L, callL E F.hints_Set_First [.ptr (some (h.length, 0))] (h ++ rsO (a :: t) :: L) = some (.tup [a.v, .bool (decide (0 < (a :: t).length))], h ++ rsO (a :: t) :: L, .no) := q1
      generalize hsO [] = O0 at *
      generalize hsO (a :: t) = O1 at *
      generalize rsO (a :: t) = R0 at *
      generalize lO (a :: t) = L0 at *
      generalize (forH (a :: t) n).map Ent.v = FE at *
      generalize (a :: t).map Hnt.v = LV at *
      generalize (a :: t).length = N at *
      simp [-getElem?_pos, -thwc_ptr, -frzc_ptr, c_tattlerlaw11_HintsPlay, g1, g2', g3, k0, k1, gt, gf, q1, q2, q3, q4, s1, s2, sa, hr, hrp, hrp2, ht1, hlm, z1, h1le, hpos, hpos']
theorem tattlerlaw11_HintsPlay_top {c0 c1 : List V} (h0 : Ty.Has (.sl (.st (.cons (.int .i64) (.cons hntT (.cons sibT .nil))))) c0) (h1 : Ty.Has (.int .i64) c1) : ∃ h fl, callL E F.tattlerlaw11_HintsPlay [Ty.el (.sl (.st (.cons (.int .i64) (.cons hntT (.cons sibT .nil))))) c0, Ty.el (.int .i64) c1] [] = some (.bool true, h, fl) := by
  obtain ⟨l, wl, _, rfl⟩ := Clls.dec h0
  obtain ⟨n, hn, rfl⟩ := h1
  obtain ⟨fl, hf⟩ := HintsPlay_eq l (by unfold reachLen at wl; omega) n []
  exact ⟨_, fl, hf⟩
end Go.Proofs.Ythkfjefoblmbhaa.W1
