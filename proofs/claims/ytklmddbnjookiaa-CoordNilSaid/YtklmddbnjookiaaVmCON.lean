/- CoordNil. -/
import Derived.Test.YtklmddbnjookiaaVmCOW
set_option linter.unusedVariables false
set_option linter.unusedSimpArgs false
namespace Go.Proofs.Ytklmddbnjookiaa.V
open Go.Vm

structure CallS where
  act : Int
  self : Int
  need : Int
  op : Int
  key : List UInt8
  sib : Sib
def CallS.c (x : CallS) : List V := .int .i64 x.act :: .int .i64 x.self :: .int .i64 x.need :: .int .i64 x.op :: .str x.key :: x.sib.c
def callT : Ty := .st (.cons (.int .i64) (.cons (.int .i64) (.cons (.int .i64) (.cons (.int .i64) (.cons .str (.cons sibT .nil))))))
theorem CallS.dec {cs : List V} (h : callT.Has cs) : ∃ x : CallS, x.sib.Wf ∧ I64 x.act ∧ I64 x.self ∧ I64 x.need ∧ I64 x.op ∧ x.key.length ≤ reachLen ∧ cs = x.c := by
  obtain ⟨_, _, rfl, h1, _, _, rfl, h2, _, _, rfl, h3, _, _, rfl, h4, _, _, rfl, ⟨k, hk, rfl⟩, _, _, rfl, hs, rfl⟩ := h
  obtain ⟨a, ha, rfl⟩ := i64_dec h1
  obtain ⟨b, hb, rfl⟩ := i64_dec h2
  obtain ⟨c, hc, rfl⟩ := i64_dec h3
  obtain ⟨d, hd, rfl⟩ := i64_dec h4
  obtain ⟨s, hw, rfl⟩ := Sib.dec hs
  exact ⟨⟨a, b, c, d, k, s⟩, hw, ha, hb, hc, hd, hk, by simp [CallS.c]⟩
theorem nilBegin (a b : Int) (k : List UInt8) (s : Sib) (w : Bool) (h : Heap) : callL E F.coord_Coord_begin [.ptr none, .int .i64 a, .int .i64 b, .str k, s.v, .bool w] h = some (.tup [.int .i64 0, .int .i64 1], h, .no) := by
  refine callL_of rfl fn_coord_Coord_begin ?_
  simp [-getElem?_pos, c_coord_Coord_begin]
  done
theorem nilWrite (a b : Int) (k : List UInt8) (s : Sib) (h : Heap) : callL E F.coord_Coord_Write [.ptr none, .int .i64 a, .int .i64 b, .str k, s.v] h = some (.tup [.int .i64 0, .int .i64 1], h, .no) := by
  refine callL_of rfl fn_coord_Coord_Write ?_
  have g := fun hp => nilBegin a b k s true hp
  simp only [Sib.v] at g
  simp [-getElem?_pos, c_coord_Coord_Write, g]
  done
theorem nilRead (a b : Int) (k : List UInt8) (s : Sib) (h : Heap) : callL E F.coord_Coord_Read [.ptr none, .int .i64 a, .int .i64 b, .str k, s.v] h = some (.tup [.int .i64 0, .int .i64 1], h, .no) := by
  refine callL_of rfl fn_coord_Coord_Read ?_
  have g := fun hp => nilBegin a b k s false hp
  simp only [Sib.v] at g
  simp [-getElem?_pos, c_coord_Coord_Read, g]
  done
theorem nilFind (n : Int) (w : Bool) (h : Heap) : callL E F.coord_Coord_find [.ptr none, .int .i64 n, .bool w] h = some (.ptr none, h, .no) := by
  refine callL_of rfl fn_coord_Coord_find ?_
  simp [-getElem?_pos, c_coord_Coord_find]
  done
theorem nilGot (n node : Int) (cs : List V) (hc : cs.length = 10) (hv : cs.all V.isCell = true) (h : Heap) : callL E F.coord_Coord_Got [.ptr none, .int .i64 n, .int .i64 node, .agg cs] h = some (.tup [.sl [], .bool false], h, .no) := by
  refine callL_of rfl fn_coord_Coord_Got ?_
  have g := fun hp => nilFind n false hp
  simp [-getElem?_pos, c_coord_Coord_Got, g, hc, hv]
  done
theorem nilKey (n : Int) (h : Heap) : callL E F.coord_Coord_Key [.ptr none, .int .i64 n] h = some (.tup [.str [], zeroSib.v, .bool false], h, .no) := by
  refine callL_of rfl fn_coord_Coord_Key ?_
  have hz : zeroSib.v = .agg [.int .i64 0, .int .i64 0, .int .i64 0, .int .i64 0, .int .i64 0, .int .i64 0, .int .i64 0, .int .i64 0, .sl []] := rfl
  rw [hz]
  simp [-getElem?_pos, c_coord_Coord_Key]
  done
theorem nilAck (n node : Int) (h : Heap) : callL E F.coord_Coord_Ack [.ptr none, .int .i64 n, .int .i64 node] h = some (.bool false, h, .no) := by
  refine callL_of rfl fn_coord_Coord_Ack ?_
  have g := nilFind n true h
  simp [-getElem?_pos, c_coord_Coord_Ack, g]
  done
theorem nilTick (h : Heap) : callL E F.coord_Coord_Tick [.ptr none] h = some (.int .i64 0, h, .no) := by
  refine callL_of rfl fn_coord_Coord_Tick ?_
  simp [-getElem?_pos, c_coord_Coord_Tick]
  done
theorem nilAnswers (h : Heap) : callL E F.coord_Coord_Answers [.ptr none] h = some (.sl [], h, .no) := by
  refine callL_of rfl fn_coord_Coord_Answers ?_
  simp [-getElem?_pos, c_coord_Coord_Answers]
  done
theorem nilLen (h : Heap) : callL E F.coord_Coord_Len [.ptr none] h = some (.int .i64 0, h, .no) := by
  refine callL_of rfl fn_coord_Coord_Len ?_
  simp [-getElem?_pos, c_coord_Coord_Len]
  done
theorem CoordNil_eq (x : CallS) (h : Heap) : callL E F.tattlerlaw22_CoordNil [.agg x.c] h = some (.bool true, h, .no) := by
  refine callL_of rfl fn_tattlerlaw22_CoordNil ?_
  have g1 := fun hp => nilWrite x.self x.need x.key x.sib hp
  have g2 := fun hp => nilRead x.self x.need x.key x.sib hp
  have g3 := fun hp => nilGot x.op x.self [.str [], .int .i64 0, .int .i64 0, .int .i64 0, .int .i64 0, .int .i64 0, .int .i64 0, .int .i64 0, .int .i64 0, .sl []] rfl rfl hp
  have g4 := fun hp => nilKey x.op hp
  have hz : zeroSib.v = .agg [.int .i64 0, .int .i64 0, .int .i64 0, .int .i64 0, .int .i64 0, .int .i64 0, .int .i64 0, .int .i64 0, .sl []] := rfl
  rw [hz] at g4
  have g5 := fun hp => nilAck x.op x.self hp
  have g6 := fun hp => awake22_eq hp
  simp only [Sib.v] at g1 g2
  simp [-getElem?_pos, c_tattlerlaw22_CoordNil, CallS.c, g1, g2, g3, g4, g5, g6, nilTick, nilAnswers, nilLen]
  done
theorem tattlerlaw22_CoordNil_top {c0 : List V} (h0 : Ty.Has callT c0) : ∃ h fl, callL E F.tattlerlaw22_CoordNil [Ty.el callT c0] [] = some (.bool true, h, fl) := by
  obtain ⟨x, _, _, _, _, _, _, rfl⟩ := CallS.dec h0
  exact ⟨_, _, CoordNil_eq x []⟩
end Go.Proofs.Ytklmddbnjookiaa.V
