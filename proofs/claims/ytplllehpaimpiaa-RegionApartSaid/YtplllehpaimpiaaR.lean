/- What the arguments of the laws are, printed by a program of this session's own. -/
import Derived.Test.YtplllehpaimpiaaSf
import Derived.Test.YtplllehpaimpiaaProg
set_option maxRecDepth 100000
namespace Go.Proofs.Ytplllehpaimpiaa
open Go Go.Jac
theorem rd27 {w : World} {cs : List Value} (h : Rd Try.prog w 27 cs) : ∃ (x0 : Int) (x1 : Int) (x2 : Int) (x3 : Int) (x4 : Int), cs = [(.int .i64 x0), (.int .i64 x1), (.int .i64 x2), (.int .i64 x3), (.int .i64 x4)] ∧ (Lit.int .i64 x0).wf = true ∧ (Lit.int .i64 x1).wf = true ∧ (Lit.int .i64 x2).wf = true ∧ (Lit.int .i64 x3).wf = true ∧ (Lit.int .i64 x4).wf = true := by
  obtain ⟨hl, hf⟩ := Rd.struct Try.underlying27 h
  rw [show Try.prog.cellsOf 27 = 5 from by kernel_rfl] at hl
  obtain ⟨c0, c1, c2, c3, c4, rfl⟩ : ∃ c0 c1 c2 c3 c4, cs = [c0, c1, c2, c3, c4] := by
    match cs, hl with
    | [c0, c1, c2, c3, c4], _ => exact ⟨_, _, _, _, _, rfl⟩
  have f0 : Rd Try.prog w 3 [c0] := by
    have g : Rd Try.prog w 3 (([c0, c1, c2, c3, c4].drop 0).take (Try.prog.cellsOf 3)) := hf 0 _ rfl
    rw [show Try.prog.cellsOf 3 = 1 from by kernel_rfl] at g
    exact g
  have f1 : Rd Try.prog w 3 [c1] := by
    have g : Rd Try.prog w 3 (([c0, c1, c2, c3, c4].drop 1).take (Try.prog.cellsOf 3)) := hf 1 _ rfl
    rw [show Try.prog.cellsOf 3 = 1 from by kernel_rfl] at g
    exact g
  have f2 : Rd Try.prog w 3 [c2] := by
    have g : Rd Try.prog w 3 (([c0, c1, c2, c3, c4].drop 2).take (Try.prog.cellsOf 3)) := hf 2 _ rfl
    rw [show Try.prog.cellsOf 3 = 1 from by kernel_rfl] at g
    exact g
  have f3 : Rd Try.prog w 3 [c3] := by
    have g : Rd Try.prog w 3 (([c0, c1, c2, c3, c4].drop 3).take (Try.prog.cellsOf 3)) := hf 3 _ rfl
    rw [show Try.prog.cellsOf 3 = 1 from by kernel_rfl] at g
    exact g
  have f4 : Rd Try.prog w 3 [c4] := by
    have g : Rd Try.prog w 3 (([c0, c1, c2, c3, c4].drop 4).take (Try.prog.cellsOf 3)) := hf 4 _ rfl
    rw [show Try.prog.cellsOf 3 = 1 from by kernel_rfl] at g
    exact g
  obtain ⟨y0, e0, h0⟩ := Rd.int Try.underlying3 f0
  cases e0
  obtain ⟨y1, e1, h1⟩ := Rd.int Try.underlying3 f1
  cases e1
  obtain ⟨y2, e2, h2⟩ := Rd.int Try.underlying3 f2
  cases e2
  obtain ⟨y3, e3, h3⟩ := Rd.int Try.underlying3 f3
  cases e3
  obtain ⟨y4, e4, h4⟩ := Rd.int Try.underlying3 f4
  cases e4
  exact ⟨_, _, _, _, _, rfl, h0, h1, h2, h3, h4⟩
theorem rd43 {w : World} {cs : List Value} (h : Rd Try.prog w 43 cs) : ∃ (x0 : Int) (x1 : Int) (x2 : Int) (x3 : Int) (x4 : Int) (x5 : Int) (x6 : Int) (x7 : Int) (x8 : Int), cs = [(.int .i64 x0), (.int .i64 x1), (.int .i64 x2), (.int .i64 x3), (.int .i64 x4), (.int .i64 x5), (.int .i64 x6), (.int .i64 x7), (.int .i64 x8)] ∧ (Lit.int .i64 x0).wf = true ∧ (Lit.int .i64 x1).wf = true ∧ (Lit.int .i64 x2).wf = true ∧ (Lit.int .i64 x3).wf = true ∧ (Lit.int .i64 x4).wf = true ∧ (Lit.int .i64 x5).wf = true ∧ (Lit.int .i64 x6).wf = true ∧ (Lit.int .i64 x7).wf = true ∧ (Lit.int .i64 x8).wf = true := by
  obtain ⟨hl, hf⟩ := Rd.struct Try.underlying43 h
  rw [show Try.prog.cellsOf 43 = 9 from by kernel_rfl] at hl
  obtain ⟨c0, c1, c2, c3, c4, c5, c6, c7, c8, rfl⟩ : ∃ c0 c1 c2 c3 c4 c5 c6 c7 c8, cs = [c0, c1, c2, c3, c4, c5, c6, c7, c8] := by
    match cs, hl with
    | [c0, c1, c2, c3, c4, c5, c6, c7, c8], _ => exact ⟨_, _, _, _, _, _, _, _, _, rfl⟩
  have f0 : Rd Try.prog w 3 [c0] := by
    have g : Rd Try.prog w 3 (([c0, c1, c2, c3, c4, c5, c6, c7, c8].drop 0).take (Try.prog.cellsOf 3)) := hf 0 _ rfl
    rw [show Try.prog.cellsOf 3 = 1 from by kernel_rfl] at g
    exact g
  have f1 : Rd Try.prog w 3 [c1] := by
    have g : Rd Try.prog w 3 (([c0, c1, c2, c3, c4, c5, c6, c7, c8].drop 1).take (Try.prog.cellsOf 3)) := hf 1 _ rfl
    rw [show Try.prog.cellsOf 3 = 1 from by kernel_rfl] at g
    exact g
  have f2 : Rd Try.prog w 3 [c2] := by
    have g : Rd Try.prog w 3 (([c0, c1, c2, c3, c4, c5, c6, c7, c8].drop 2).take (Try.prog.cellsOf 3)) := hf 2 _ rfl
    rw [show Try.prog.cellsOf 3 = 1 from by kernel_rfl] at g
    exact g
  have f3 : Rd Try.prog w 3 [c3] := by
    have g : Rd Try.prog w 3 (([c0, c1, c2, c3, c4, c5, c6, c7, c8].drop 3).take (Try.prog.cellsOf 3)) := hf 3 _ rfl
    rw [show Try.prog.cellsOf 3 = 1 from by kernel_rfl] at g
    exact g
  have f4 : Rd Try.prog w 27 [c4, c5, c6, c7, c8] := by
    have g : Rd Try.prog w 27 (([c0, c1, c2, c3, c4, c5, c6, c7, c8].drop 4).take (Try.prog.cellsOf 27)) := hf 4 _ rfl
    rw [show Try.prog.cellsOf 27 = 5 from by kernel_rfl] at g
    exact g
  obtain ⟨y0, e0, h0⟩ := Rd.int Try.underlying3 f0
  cases e0
  obtain ⟨y1, e1, h1⟩ := Rd.int Try.underlying3 f1
  cases e1
  obtain ⟨y2, e2, h2⟩ := Rd.int Try.underlying3 f2
  cases e2
  obtain ⟨y3, e3, h3⟩ := Rd.int Try.underlying3 f3
  cases e3
  obtain ⟨y4, y5, y6, y7, y8, e4, h4, h5, h6, h7, h8⟩ := rd27 f4
  cases e4
  exact ⟨_, _, _, _, _, _, _, _, _, rfl, h0, h1, h2, h3, h4, h5, h6, h7, h8⟩
end Go.Proofs.Ytplllehpaimpiaa
