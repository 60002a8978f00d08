/- HintsPlay. -/
import Derived.Test.YthkfjefoblmbhaaVmHS
set_option linter.unusedVariables false
set_option linter.unusedSimpArgs false
namespace Go.Proofs.Ythkfjefoblmbhaa.W1
open Go.Vm Go.Proofs.Ythkfjefoblmbhaa.V

noncomputable def dropB (S : List Hnt) (c : Cll) : Bool := match getH S c.h.node c.h.key with | some q => q.leq c.seen | none => false
noncomputable def stepL (S : List Hnt) (c : Cll) : List Hnt := cnd (decide (c.doo = 0)) (putL S c.h) (cnd (dropB S c) (dropS S c.h.node c.h.key) S)
theorem step_inv {S : List Hnt} (inv : HInv S) (c : Cll) : HInv (stepL S c) := by
  unfold stepL
  cases decide (c.doo = 0)
  · cases dropB S c
    · exact inv
    · exact inv.drop _ _
  · exact inv.putL _
noncomputable def playL (cs : List Cll) : List Hnt := cs.foldl stepL []
theorem play_inv (cs : List Cll) : HInv (playL cs) := by
  have : ∀ (cs : List Cll) (S : List Hnt), HInv S → HInv (cs.foldl stepL S) := by
    intro cs
    induction cs with
    | nil => exact fun S h => h
    | cons c cs ih => exact fun S h => ih _ (step_inv h c)
  exact this cs [] HInv.nil
theorem play_take {cs : List Cll} {j : Nat} {c : Cll} (hc : cs[j]? = some c) : playL (cs.take (j + 1)) = stepL (playL (cs.take j)) c := by
  unfold playL
  rw [List.take_add_one, hc, List.foldl_append]
  rfl
noncomputable def playM (cs : List Cll) : Bool := cs.any fun c => !decide (c.doo = 0) || mayH c.h
theorem playM_take {cs : List Cll} {j : Nat} {c : Cll} (hc : cs[j]? = some c) : playM (cs.take (j + 1)) = (playM (cs.take j) || (!decide (c.doo = 0) || mayH c.h)) := by
  unfold playM
  rw [List.take_add_one, hc, List.any_append]
  simp
theorem s_put {l : List Hnt} (inv : HInv l) (x : Hnt) (h L : Heap) : ∃ b, callL E F.hints_Set_Put [.ptr (some (h.length, 0)), x.v] (h ++ hsO l :: L) =
    some (.tup [.bool (putB l x), .int .i64 (putE l x)], h ++ hsO (putL l x) :: L, ⟨cnd b [h.length] [], [], mayH x⟩) := by
  obtain ⟨b, g⟩ := put_at0 inv x h L
  exact ⟨b, up_hints_Set_Put g⟩
theorem s_drop {l : List Hnt} (inv : HInv l) (c : Cll) (h L : Heap) : ∃ b, callL E F.hints_Set_Drop [.ptr (some (h.length, 0)), .int .i64 c.h.node, .str c.h.ent.key, c.seen.v] (h ++ hsO l :: L) =
    some (.bool (dropB l c), h ++ hsO (cnd (dropB l c) (dropS l c.h.node c.h.key) l) :: L, ⟨cnd b [h.length] [], [], true⟩) := by
  have hi : hget (h ++ hsO l :: L) h.length = some (hsO l) := by rw [hget_local0]; rfl
  obtain ⟨w, hw⟩ := hintsDrop_eq hi inv c.h.node c.h.key c.seen
  rw [hset_local0] at hw
  exact ⟨_, up_hints_Set_Drop hw⟩
theorem m_put (B : Vm.Obj) {l : List Hnt} (inv : HInv l) (x : Hnt) (h L : Heap) : ∃ b, callL E F.tattlerref5_Hints_Put [.ptr (some (h.length + 1, 0)), x.v] (h ++ B :: rsO l :: L) =
    some (.tup [.bool (putB l x), .int .i64 (putE l x)], h ++ B :: rsO (putL l x) :: L, ⟨cnd b [h.length + 1] [], [], false⟩) := by
  have hi : hget (h ++ B :: rsO l :: L) (h.length + 1) = some (rsO l) := by rw [hget_local]; rfl
  obtain ⟨w, hw⟩ := r5HPut_eq hi inv x
  rw [hset_local] at hw
  exact ⟨w, up_tattlerref5_Hints_Put hw⟩
theorem m_drop (B : Vm.Obj) {l : List Hnt} (inv : HInv l) (c : Cll) (hs : c.seen.vals.length ≤ 20) (h L : Heap) : ∃ b, callL E F.tattlerref5_Hints_Drop [.ptr (some (h.length + 1, 0)), .int .i64 c.h.node, .str c.h.ent.key, c.seen.v] (h ++ B :: rsO l :: L) =
    some (.bool (dropB l c), h ++ B :: rsO (cnd (dropB l c) (dropS l c.h.node c.h.key) l) :: L, ⟨cnd b [h.length + 1] [], [], false⟩) := by
  have hi : hget (h ++ B :: rsO l :: L) (h.length + 1) = some (rsO l) := by rw [hget_local]; rfl
  obtain ⟨w, hw⟩ := r5HDrop_eq hi inv c.h.node c.h.key c.seen (by omega)
  rw [hset_local] at hw
  exact ⟨w, up_tattlerref5_Hints_Drop hw⟩
theorem play_l0 (cs : List Cll) (hcs : cs.length ≤ 140737488355328) (hseen : ∀ c ∈ cs, c.seen.vals.length ≤ 20) (n : Int) (h : Heap) :
    loopRun (callL E) loopL h.length [1, 5, 6, 27, 28, 29] c_tattlerlaw11_HintsPlay_l0 ⟨[(1, .int .i64 n), (5, .ptr (some (h.length, 0))), (6, .ptr (some (h.length + 1, 0))), (27, .sl (cs.map Cll.v)), (28, .int .i64 cs.length), (29, .int .i64 0)], h ++ [hsO [], rsO []], .no⟩ =
      some (.exit 0, ⟨[(1, .int .i64 n), (5, .ptr (some (h.length, 0))), (6, .ptr (some (h.length + 1, 0))), (27, .sl (cs.map Cll.v)), (28, .int .i64 cs.length), (29, .int .i64 cs.length), (30, .bool false)], h ++ [hsO (playL cs), rsO (playL cs)], ⟨[], [], playM cs⟩⟩) := by
  have k2 := loop_to (C := callL E) (fb := h.length) (live := [1, 5, 6, 27, 28, 29]) (c := c_tattlerlaw11_HintsPlay_l0)
    (fun j => ⟨[(1, .int .i64 n), (5, .ptr (some (h.length, 0))), (6, .ptr (some (h.length + 1, 0))), (27, .sl (cs.map Cll.v)), (28, .int .i64 cs.length), (29, .int .i64 j)], h ++ [hsO (playL (cs.take j)), rsO (playL (cs.take j))], ⟨[], [], playM (cs.take j)⟩⟩) cs.length
    (r := (.exit 0, ⟨[(1, .int .i64 n), (5, .ptr (some (h.length, 0))), (6, .ptr (some (h.length + 1, 0))), (27, .sl (cs.map Cll.v)), (28, .int .i64 cs.length), (29, .int .i64 cs.length), (30, .bool false)], h ++ [hsO (playL cs), rsO (playL cs)], ⟨[], [], playM cs⟩⟩)) (fun j hj => ?_) ?_ rfl
  · exact k2
  · obtain ⟨c, hc, _, hcm⟩ := get_of_lt (l := cs) (i := j) hj
    have hlt : (j : Int) < (cs.length : Int) := by omega
    have h1 := i64_add1 (n := j) (by omega)
    have inv := play_inv (cs.take j)
    rw [s_round, play_take hc, playM_take hc]
    generalize playM (cs.take j) = pm at *
    generalize playL (cs.take j) = P at *
    have ho := hs_lt P
    have hr := rs_lt P
    unfold stepL
    by_cases hd : c.doo = 0
    · obtain ⟨b, g⟩ := s_put inv c.h h [rsO P, .cells c.c []]
      obtain ⟨b', g'⟩ := m_put (hsO (putL P c.h)) inv c.h h [.cells c.c []]
      have hw := wrLt_cnd (n := h.length) (i := h.length) (by omega) b
      have hw' := wrLt_cnd (n := h.length) (i := h.length + 1) (by omega) b'
      have ho1 := hs_lt (putL P c.h)
      have hr1 := rs_lt (putL P c.h)
      rw [decide_eq_true hd, cnd_true]
      generalize putB P c.h = pb at *
      generalize putE P c.h = pe at *
      generalize hsO (putL P c.h) = O1 at *
      generalize rsO (putL P c.h) = R1 at *
      generalize hsO P = O0 at *
      generalize rsO P = R0 at *
      simp [-getElem?_pos, c_tattlerlaw11_HintsPlay_l0, hlt, hj, hc, h1, hd, g, g', hw, hw', ho, hr, ho1, hr1]
    · obtain ⟨b, g⟩ := s_drop inv c h [rsO P, .cells c.c []]
      obtain ⟨b', g'⟩ := m_drop (hsO (cnd (dropB P c) (dropS P c.h.node c.h.key) P)) inv c (hseen c hcm) h [.cells c.c []]
      have hw := wrLt_cnd (n := h.length) (i := h.length) (by omega) b
      have hw' := wrLt_cnd (n := h.length) (i := h.length + 1) (by omega) b'
      have hdb : (c.doo == 0) = false := by simpa using hd
      rw [decide_eq_false hd, cnd_false]
      have ho1 := hs_lt (cnd (dropB P c) (dropS P c.h.node c.h.key) P)
      have hr1 := rs_lt (cnd (dropB P c) (dropS P c.h.node c.h.key) P)
      generalize cnd (dropB P c) (dropS P c.h.node c.h.key) P = P1 at *
      generalize dropB P c = db at *
      generalize hsO P1 = O1 at *
      generalize rsO P1 = R1 at *
      generalize hsO P = O0 at *
      generalize rsO P = R0 at *
      simp [-getElem?_pos, c_tattlerlaw11_HintsPlay_l0, hlt, hj, hc, h1, hdb, g, g', hw, hw', ho, hr, ho1, hr1]
  · rw [s_round, List.take_length]
    simp [c_tattlerlaw11_HintsPlay_l0]
theorem play_l1 (S : List Hnt) (inv : HInv S) (n : Int) (h : Heap) (A B : V) (hA : A.lt h.length = true) (hB : B.lt h.length = true) (fb : Nat) (hfb : fb ≤ h.length) (al : Bool) :
    loopRun (callL E) loopL fb [1, 5, 6, 13, 85, 86, 87] c_tattlerlaw11_HintsPlay_l1 ⟨[(1, .int .i64 n), (5, A), (6, B), (13, .sl []), (85, .sl (S.map Hnt.v)), (86, .int .i64 S.length), (87, .int .i64 0)], h, ⟨[], [], al⟩⟩ =
      some (.exit 2, ⟨[(1, .int .i64 n), (5, A), (6, B), (13, .sl ((forH S n).map Ent.v)), (85, .sl (S.map Hnt.v)), (86, .int .i64 S.length), (87, .int .i64 S.length), (88, .bool false)], h, ⟨[], [], al⟩⟩) := by
  have hl := inv.len
  have k2 := loop_to (C := callL E) (fb := fb) (live := [1, 5, 6, 13, 85, 86, 87]) (c := c_tattlerlaw11_HintsPlay_l1)
    (fun j => ⟨[(1, .int .i64 n), (5, A), (6, B), (13, .sl ((forH (S.take j) n).map Ent.v)), (85, .sl (S.map Hnt.v)), (86, .int .i64 S.length), (87, .int .i64 j)], h, ⟨[], [], al⟩⟩) S.length
    (r := (.exit 2, ⟨[(1, .int .i64 n), (5, A), (6, B), (13, .sl ((forH S n).map Ent.v)), (85, .sl (S.map Hnt.v)), (86, .int .i64 S.length), (87, .int .i64 S.length), (88, .bool false)], h, ⟨[], [], al⟩⟩)) (fun j hj => ?_) ?_ rfl
  · exact k2
  · obtain ⟨x, hx, _, _⟩ := get_of_lt (l := S) (i := j) hj
    have hlt : (j : Int) < (S.length : Int) := by omega
    have h1 := i64_add1 (n := j) (by omega)
    have hfl := forH_len (S.take j) n
    have htl := List.length_take_le j S
    have hb : ((forH (S.take j) n).length + 1) * 104 ≤ 140737488355328 := by omega
    have hz := sizeOk_ents (forH (S.take j) n)
    have hlL : ((forH (S.take j) n).map Ent.v).length = (forH (S.take j) n).length := by simp
    have hfb' : ¬ h.length < fb := by omega
    rw [s_round, forH_take hx]
    by_cases hn : x.node = n
    · rw [decide_eq_true hn, cnd_true, List.map_append]
      rw [← hlL] at hb
      generalize (forH (S.take j) n).map Ent.v = LT at *
      simp [-getElem?_pos, c_tattlerlaw11_HintsPlay_l1, hlt, hj, hx, h1, hn, hb, hz, hA, hB, hfb']
    · have hnb : (x.node == n) = false := by simpa using hn
      rw [decide_eq_false hn, cnd_false, List.append_nil]
      generalize (forH (S.take j) n).map Ent.v = LT at *
      simp [-getElem?_pos, c_tattlerlaw11_HintsPlay_l1, hlt, hj, hx, h1, hnb, hA, hB, hfb']
  · rw [s_round, List.take_length]
    simp [c_tattlerlaw11_HintsPlay_l1]
end Go.Proofs.Ythkfjefoblmbhaa.W1
