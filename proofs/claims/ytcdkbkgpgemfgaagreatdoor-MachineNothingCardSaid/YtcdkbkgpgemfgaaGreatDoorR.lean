/- What the arguments of the laws are, printed by a program of this session's own. -/
import Derived.Test.YtcdkbkgpgemfgaaGreatDoorSf
import Derived.Test.YtcdkbkgpgemfgaaGreatDoorProg
set_option maxRecDepth 100000
namespace Go.Proofs.YtcdkbkgpgemfgaaGreatDoor
open Go Go.Jac
theorem rd23 {w : World} {cs : List Value} (h : Rd Tryz.prog w 23 cs) : ∃ (x0 : Int) (x1 : Int) (x2 : Int) (x3 : Int) (x4 : Int), cs = [(.int .i64 x0), (.int .i64 x1), (.int .i64 x2), (.int .i64 x3), (.int .i64 x4)] ∧ (Lit.int .i64 x0).wf = true ∧ (Lit.int .i64 x1).wf = true ∧ (Lit.int .i64 x2).wf = true ∧ (Lit.int .i64 x3).wf = true ∧ (Lit.int .i64 x4).wf = true := by
  obtain ⟨hl, hf⟩ := Rd.struct Tryz.underlying23 h
  rw [show Tryz.prog.cellsOf 23 = 5 from by kernel_rfl] at hl
  obtain ⟨c0, c1, c2, c3, c4, rfl⟩ : ∃ c0 c1 c2 c3 c4, cs = [c0, c1, c2, c3, c4] := by
    match cs, hl with
    | [c0, c1, c2, c3, c4], _ => exact ⟨_, _, _, _, _, rfl⟩
  have f0 : Rd Tryz.prog w 3 [c0] := by
    have g : Rd Tryz.prog w 3 (([c0, c1, c2, c3, c4].drop 0).take (Tryz.prog.cellsOf 3)) := hf 0 _ rfl
    rw [show Tryz.prog.cellsOf 3 = 1 from by kernel_rfl] at g
    exact g
  have f1 : Rd Tryz.prog w 3 [c1] := by
    have g : Rd Tryz.prog w 3 (([c0, c1, c2, c3, c4].drop 1).take (Tryz.prog.cellsOf 3)) := hf 1 _ rfl
    rw [show Tryz.prog.cellsOf 3 = 1 from by kernel_rfl] at g
    exact g
  have f2 : Rd Tryz.prog w 3 [c2] := by
    have g : Rd Tryz.prog w 3 (([c0, c1, c2, c3, c4].drop 2).take (Tryz.prog.cellsOf 3)) := hf 2 _ rfl
    rw [show Tryz.prog.cellsOf 3 = 1 from by kernel_rfl] at g
    exact g
  have f3 : Rd Tryz.prog w 3 [c3] := by
    have g : Rd Tryz.prog w 3 (([c0, c1, c2, c3, c4].drop 3).take (Tryz.prog.cellsOf 3)) := hf 3 _ rfl
    rw [show Tryz.prog.cellsOf 3 = 1 from by kernel_rfl] at g
    exact g
  have f4 : Rd Tryz.prog w 3 [c4] := by
    have g : Rd Tryz.prog w 3 (([c0, c1, c2, c3, c4].drop 4).take (Tryz.prog.cellsOf 3)) := hf 4 _ rfl
    rw [show Tryz.prog.cellsOf 3 = 1 from by kernel_rfl] at g
    exact g
  obtain ⟨y0, e0, h0⟩ := Rd.int Tryz.underlying3 f0
  cases e0
  obtain ⟨y1, e1, h1⟩ := Rd.int Tryz.underlying3 f1
  cases e1
  obtain ⟨y2, e2, h2⟩ := Rd.int Tryz.underlying3 f2
  cases e2
  obtain ⟨y3, e3, h3⟩ := Rd.int Tryz.underlying3 f3
  cases e3
  obtain ⟨y4, e4, h4⟩ := Rd.int Tryz.underlying3 f4
  cases e4
  exact ⟨_, _, _, _, _, rfl, h0, h1, h2, h3, h4⟩
theorem rd36 {w : World} {cs : List Value} (h : Rd Tryz.prog w 36 cs) : ∃ (x0 : Int) (x1 : Int) (x2 : Int) (x3 : Int) (x4 : Int) (x5 : Int) (x6 : Int) (x7 : Value) (x8 : Value), cs = [(.int .i64 x0), (.int .i64 x1), (.int .i64 x2), (.int .i64 x3), (.int .i64 x4), (.int .i64 x5), (.int .i64 x6), x7, x8] ∧ (Lit.int .i64 x0).wf = true ∧ (Lit.int .i64 x1).wf = true ∧ (Lit.int .i64 x2).wf = true ∧ (Lit.int .i64 x3).wf = true ∧ (Lit.int .i64 x4).wf = true ∧ (Lit.int .i64 x5).wf = true ∧ (Lit.int .i64 x6).wf = true ∧ Rd Tryz.prog w 31 [x7] ∧ Rd Tryz.prog w 30 [x8] := by
  obtain ⟨hl, hf⟩ := Rd.struct Tryz.underlying36 h
  rw [show Tryz.prog.cellsOf 36 = 9 from by kernel_rfl] at hl
  obtain ⟨c0, c1, c2, c3, c4, c5, c6, c7, c8, rfl⟩ : ∃ c0 c1 c2 c3 c4 c5 c6 c7 c8, cs = [c0, c1, c2, c3, c4, c5, c6, c7, c8] := by
    match cs, hl with
    | [c0, c1, c2, c3, c4, c5, c6, c7, c8], _ => exact ⟨_, _, _, _, _, _, _, _, _, rfl⟩
  have f0 : Rd Tryz.prog w 3 [c0] := by
    have g : Rd Tryz.prog w 3 (([c0, c1, c2, c3, c4, c5, c6, c7, c8].drop 0).take (Tryz.prog.cellsOf 3)) := hf 0 _ rfl
    rw [show Tryz.prog.cellsOf 3 = 1 from by kernel_rfl] at g
    exact g
  have f1 : Rd Tryz.prog w 3 [c1] := by
    have g : Rd Tryz.prog w 3 (([c0, c1, c2, c3, c4, c5, c6, c7, c8].drop 1).take (Tryz.prog.cellsOf 3)) := hf 1 _ rfl
    rw [show Tryz.prog.cellsOf 3 = 1 from by kernel_rfl] at g
    exact g
  have f2 : Rd Tryz.prog w 3 [c2] := by
    have g : Rd Tryz.prog w 3 (([c0, c1, c2, c3, c4, c5, c6, c7, c8].drop 2).take (Tryz.prog.cellsOf 3)) := hf 2 _ rfl
    rw [show Tryz.prog.cellsOf 3 = 1 from by kernel_rfl] at g
    exact g
  have f3 : Rd Tryz.prog w 3 [c3] := by
    have g : Rd Tryz.prog w 3 (([c0, c1, c2, c3, c4, c5, c6, c7, c8].drop 3).take (Tryz.prog.cellsOf 3)) := hf 3 _ rfl
    rw [show Tryz.prog.cellsOf 3 = 1 from by kernel_rfl] at g
    exact g
  have f4 : Rd Tryz.prog w 3 [c4] := by
    have g : Rd Tryz.prog w 3 (([c0, c1, c2, c3, c4, c5, c6, c7, c8].drop 4).take (Tryz.prog.cellsOf 3)) := hf 4 _ rfl
    rw [show Tryz.prog.cellsOf 3 = 1 from by kernel_rfl] at g
    exact g
  have f5 : Rd Tryz.prog w 3 [c5] := by
    have g : Rd Tryz.prog w 3 (([c0, c1, c2, c3, c4, c5, c6, c7, c8].drop 5).take (Tryz.prog.cellsOf 3)) := hf 5 _ rfl
    rw [show Tryz.prog.cellsOf 3 = 1 from by kernel_rfl] at g
    exact g
  have f6 : Rd Tryz.prog w 3 [c6] := by
    have g : Rd Tryz.prog w 3 (([c0, c1, c2, c3, c4, c5, c6, c7, c8].drop 6).take (Tryz.prog.cellsOf 3)) := hf 6 _ rfl
    rw [show Tryz.prog.cellsOf 3 = 1 from by kernel_rfl] at g
    exact g
  have f7 : Rd Tryz.prog w 31 [c7] := by
    have g : Rd Tryz.prog w 31 (([c0, c1, c2, c3, c4, c5, c6, c7, c8].drop 7).take (Tryz.prog.cellsOf 31)) := hf 7 _ rfl
    rw [show Tryz.prog.cellsOf 31 = 1 from by kernel_rfl] at g
    exact g
  have f8 : Rd Tryz.prog w 30 [c8] := by
    have g : Rd Tryz.prog w 30 (([c0, c1, c2, c3, c4, c5, c6, c7, c8].drop 8).take (Tryz.prog.cellsOf 30)) := hf 8 _ rfl
    rw [show Tryz.prog.cellsOf 30 = 1 from by kernel_rfl] at g
    exact g
  obtain ⟨y0, e0, h0⟩ := Rd.int Tryz.underlying3 f0
  cases e0
  obtain ⟨y1, e1, h1⟩ := Rd.int Tryz.underlying3 f1
  cases e1
  obtain ⟨y2, e2, h2⟩ := Rd.int Tryz.underlying3 f2
  cases e2
  obtain ⟨y3, e3, h3⟩ := Rd.int Tryz.underlying3 f3
  cases e3
  obtain ⟨y4, e4, h4⟩ := Rd.int Tryz.underlying3 f4
  cases e4
  obtain ⟨y5, e5, h5⟩ := Rd.int Tryz.underlying3 f5
  cases e5
  obtain ⟨y6, e6, h6⟩ := Rd.int Tryz.underlying3 f6
  cases e6
  exact ⟨_, _, _, _, _, _, _, _, _, rfl, h0, h1, h2, h3, h4, h5, h6, f7, f8⟩
theorem rd38 {w : World} {cs : List Value} (h : Rd Tryz.prog w 38 cs) : ∃ (x0 : Int) (x1 : Int) (x2 : Int) (x3 : Int) (x4 : Int) (x5 : Int) (x6 : Int) (x7 : Int) (x8 : Int) (x9 : Int) (x10 : Value) (x11 : Value), cs = [(.int .i64 x0), (.int .i64 x1), (.int .i64 x2), (.int .i64 x3), (.int .i64 x4), (.int .i64 x5), (.int .i64 x6), (.int .i64 x7), (.int .i64 x8), (.int .i64 x9), x10, x11] ∧ (Lit.int .i64 x0).wf = true ∧ (Lit.int .i64 x1).wf = true ∧ (Lit.int .i64 x2).wf = true ∧ (Lit.int .i64 x3).wf = true ∧ (Lit.int .i64 x4).wf = true ∧ (Lit.int .i64 x5).wf = true ∧ (Lit.int .i64 x6).wf = true ∧ (Lit.int .i64 x7).wf = true ∧ (Lit.int .i64 x8).wf = true ∧ (Lit.int .i64 x9).wf = true ∧ Rd Tryz.prog w 31 [x10] ∧ Rd Tryz.prog w 30 [x11] := by
  obtain ⟨hl, hf⟩ := Rd.struct Tryz.underlying38 h
  rw [show Tryz.prog.cellsOf 38 = 12 from by kernel_rfl] at hl
  obtain ⟨c0, c1, c2, c3, c4, c5, c6, c7, c8, c9, c10, c11, rfl⟩ : ∃ c0 c1 c2 c3 c4 c5 c6 c7 c8 c9 c10 c11, cs = [c0, c1, c2, c3, c4, c5, c6, c7, c8, c9, c10, c11] := by
    match cs, hl with
    | [c0, c1, c2, c3, c4, c5, c6, c7, c8, c9, c10, c11], _ => exact ⟨_, _, _, _, _, _, _, _, _, _, _, _, rfl⟩
  have f0 : Rd Tryz.prog w 3 [c0] := by
    have g : Rd Tryz.prog w 3 (([c0, c1, c2, c3, c4, c5, c6, c7, c8, c9, c10, c11].drop 0).take (Tryz.prog.cellsOf 3)) := hf 0 _ rfl
    rw [show Tryz.prog.cellsOf 3 = 1 from by kernel_rfl] at g
    exact g
  have f1 : Rd Tryz.prog w 3 [c1] := by
    have g : Rd Tryz.prog w 3 (([c0, c1, c2, c3, c4, c5, c6, c7, c8, c9, c10, c11].drop 1).take (Tryz.prog.cellsOf 3)) := hf 1 _ rfl
    rw [show Tryz.prog.cellsOf 3 = 1 from by kernel_rfl] at g
    exact g
  have f2 : Rd Tryz.prog w 3 [c2] := by
    have g : Rd Tryz.prog w 3 (([c0, c1, c2, c3, c4, c5, c6, c7, c8, c9, c10, c11].drop 2).take (Tryz.prog.cellsOf 3)) := hf 2 _ rfl
    rw [show Tryz.prog.cellsOf 3 = 1 from by kernel_rfl] at g
    exact g
  have f3 : Rd Tryz.prog w 36 [c3, c4, c5, c6, c7, c8, c9, c10, c11] := by
    have g : Rd Tryz.prog w 36 (([c0, c1, c2, c3, c4, c5, c6, c7, c8, c9, c10, c11].drop 3).take (Tryz.prog.cellsOf 36)) := hf 3 _ rfl
    rw [show Tryz.prog.cellsOf 36 = 9 from by kernel_rfl] at g
    exact g
  obtain ⟨y0, e0, h0⟩ := Rd.int Tryz.underlying3 f0
  cases e0
  obtain ⟨y1, e1, h1⟩ := Rd.int Tryz.underlying3 f1
  cases e1
  obtain ⟨y2, e2, h2⟩ := Rd.int Tryz.underlying3 f2
  cases e2
  obtain ⟨y3, y4, y5, y6, y7, y8, y9, y10, y11, e3, h3, h4, h5, h6, h7, h8, h9, h10, h11⟩ := rd36 f3
  cases e3
  exact ⟨_, _, _, _, _, _, _, _, _, _, _, _, rfl, h0, h1, h2, h3, h4, h5, h6, h7, h8, h9, h10, h11⟩
theorem rd47 {w : World} {cs : List Value} (h : Rd Tryz.prog w 47 cs) : ∃ (x0 : Int) (x1 : Int), cs = [(.int .i64 x0), (.int .i64 x1)] ∧ (Lit.int .i64 x0).wf = true ∧ (Lit.int .i64 x1).wf = true := by
  obtain ⟨hl, hf⟩ := Rd.struct Tryz.underlying47 h
  rw [show Tryz.prog.cellsOf 47 = 2 from by kernel_rfl] at hl
  obtain ⟨c0, c1, rfl⟩ : ∃ c0 c1, cs = [c0, c1] := by
    match cs, hl with
    | [c0, c1], _ => exact ⟨_, _, rfl⟩
  have f0 : Rd Tryz.prog w 3 [c0] := by
    have g : Rd Tryz.prog w 3 (([c0, c1].drop 0).take (Tryz.prog.cellsOf 3)) := hf 0 _ rfl
    rw [show Tryz.prog.cellsOf 3 = 1 from by kernel_rfl] at g
    exact g
  have f1 : Rd Tryz.prog w 3 [c1] := by
    have g : Rd Tryz.prog w 3 (([c0, c1].drop 1).take (Tryz.prog.cellsOf 3)) := hf 1 _ rfl
    rw [show Tryz.prog.cellsOf 3 = 1 from by kernel_rfl] at g
    exact g
  obtain ⟨y0, e0, h0⟩ := Rd.int Tryz.underlying3 f0
  cases e0
  obtain ⟨y1, e1, h1⟩ := Rd.int Tryz.underlying3 f1
  cases e1
  exact ⟨_, _, rfl, h0, h1⟩
end Go.Proofs.YtcdkbkgpgemfgaaGreatDoor
