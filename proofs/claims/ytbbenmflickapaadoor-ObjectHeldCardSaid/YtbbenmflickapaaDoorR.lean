/- What the arguments of the laws are, printed by a program of this session's own. -/
import Derived.Test.YtbbenmflickapaaDoorSf
import Derived.Test.YtbbenmflickapaaDoorProg
set_option maxRecDepth 100000
namespace Go.Proofs.YtbbenmflickapaaDoor
open Go Go.Jac
theorem rd52 {w : World} {cs : List Value} (h : Rd Tryd.prog w 52 cs) : ∃ (x0 : Int) (x1 : Int) (x2 : Int) (x3 : Int) (x4 : Value), cs = [(.int .i64 x0), (.int .i64 x1), (.int .i64 x2), (.int .i64 x3), x4] ∧ (Lit.int .i64 x0).wf = true ∧ (Lit.int .i64 x1).wf = true ∧ (Lit.int .i64 x2).wf = true ∧ (Lit.int .i64 x3).wf = true ∧ Rd Tryd.prog w 50 [x4] := by
  obtain ⟨hl, hf⟩ := Rd.struct Tryd.underlying52 h
  rw [show Tryd.prog.cellsOf 52 = 5 from by kernel_rfl] at hl
  obtain ⟨c0, c1, c2, c3, c4, rfl⟩ : ∃ c0 c1 c2 c3 c4, cs = [c0, c1, c2, c3, c4] := by
    match cs, hl with
    | [c0, c1, c2, c3, c4], _ => exact ⟨_, _, _, _, _, rfl⟩
  have f0 : Rd Tryd.prog w 3 [c0] := by
    have g : Rd Tryd.prog w 3 (([c0, c1, c2, c3, c4].drop 0).take (Tryd.prog.cellsOf 3)) := hf 0 _ rfl
    rw [show Tryd.prog.cellsOf 3 = 1 from by kernel_rfl] at g
    exact g
  have f1 : Rd Tryd.prog w 3 [c1] := by
    have g : Rd Tryd.prog w 3 (([c0, c1, c2, c3, c4].drop 1).take (Tryd.prog.cellsOf 3)) := hf 1 _ rfl
    rw [show Tryd.prog.cellsOf 3 = 1 from by kernel_rfl] at g
    exact g
  have f2 : Rd Tryd.prog w 3 [c2] := by
    have g : Rd Tryd.prog w 3 (([c0, c1, c2, c3, c4].drop 2).take (Tryd.prog.cellsOf 3)) := hf 2 _ rfl
    rw [show Tryd.prog.cellsOf 3 = 1 from by kernel_rfl] at g
    exact g
  have f3 : Rd Tryd.prog w 3 [c3] := by
    have g : Rd Tryd.prog w 3 (([c0, c1, c2, c3, c4].drop 3).take (Tryd.prog.cellsOf 3)) := hf 3 _ rfl
    rw [show Tryd.prog.cellsOf 3 = 1 from by kernel_rfl] at g
    exact g
  have f4 : Rd Tryd.prog w 50 [c4] := by
    have g : Rd Tryd.prog w 50 (([c0, c1, c2, c3, c4].drop 4).take (Tryd.prog.cellsOf 50)) := hf 4 _ rfl
    rw [show Tryd.prog.cellsOf 50 = 1 from by kernel_rfl] at g
    exact g
  obtain ⟨y0, e0, h0⟩ := Rd.int Tryd.underlying3 f0
  cases e0
  obtain ⟨y1, e1, h1⟩ := Rd.int Tryd.underlying3 f1
  cases e1
  obtain ⟨y2, e2, h2⟩ := Rd.int Tryd.underlying3 f2
  cases e2
  obtain ⟨y3, e3, h3⟩ := Rd.int Tryd.underlying3 f3
  cases e3
  exact ⟨_, _, _, _, _, rfl, h0, h1, h2, h3, f4⟩
end Go.Proofs.YtbbenmflickapaaDoor
