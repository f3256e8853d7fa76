/- What the arguments of the laws are, printed by a program of this session's own. -/
import Derived.Test.YtgcnebacjkpfmaaSf
import Derived.Test.YtgcnebacjkpfmaaProg
set_option maxRecDepth 100000
namespace Go.Proofs.Ytgcnebacjkpfmaa
open Go Go.Jac
theorem rd35 {w : World} {cs : List Value} (h : Rd Try.prog w 35 cs) : ∃ (x0 : Int) (x1 : Int) (x2 : Int), cs = [(.int .i64 x0), (.int .i64 x1), (.int .i64 x2)] ∧ (Lit.int .i64 x0).wf = true ∧ (Lit.int .i64 x1).wf = true ∧ (Lit.int .i64 x2).wf = true := by
  obtain ⟨hl, hf⟩ := Rd.struct Try.underlying35 h
  rw [show Try.prog.cellsOf 35 = 3 from by kernel_rfl] at hl
  obtain ⟨c0, c1, c2, rfl⟩ : ∃ c0 c1 c2, cs = [c0, c1, c2] := by
    match cs, hl with
    | [c0, c1, c2], _ => exact ⟨_, _, _, rfl⟩
  have f0 : Rd Try.prog w 3 [c0] := by
    have g : Rd Try.prog w 3 (([c0, c1, c2].drop 0).take (Try.prog.cellsOf 3)) := hf 0 _ rfl
    rw [show Try.prog.cellsOf 3 = 1 from by kernel_rfl] at g
    exact g
  have f1 : Rd Try.prog w 3 [c1] := by
    have g : Rd Try.prog w 3 (([c0, c1, c2].drop 1).take (Try.prog.cellsOf 3)) := hf 1 _ rfl
    rw [show Try.prog.cellsOf 3 = 1 from by kernel_rfl] at g
    exact g
  have f2 : Rd Try.prog w 33 [c2] := by
    have g : Rd Try.prog w 33 (([c0, c1, c2].drop 2).take (Try.prog.cellsOf 33)) := hf 2 _ rfl
    rw [show Try.prog.cellsOf 33 = 1 from by kernel_rfl] at g
    exact g
  obtain ⟨y0, e0, h0⟩ := Rd.int Try.underlying3 f0
  cases e0
  obtain ⟨y1, e1, h1⟩ := Rd.int Try.underlying3 f1
  cases e1
  obtain ⟨y2, e2, h2⟩ := Rd.int Try.underlying33 f2
  cases e2
  exact ⟨_, _, _, rfl, h0, h1, h2⟩
theorem rd40 {w : World} {cs : List Value} (h : Rd Try.prog w 40 cs) : ∃ (x0 : Int) (x1 : Int) (x2 : Int) (x3 : Int) (x4 : Int) (x5 : Int), cs = [(.int .i64 x0), (.int .i64 x1), (.int .i64 x2), (.int .i64 x3), (.int .i64 x4), (.int .i64 x5)] ∧ (Lit.int .i64 x0).wf = true ∧ (Lit.int .i64 x1).wf = true ∧ (Lit.int .i64 x2).wf = true ∧ (Lit.int .i64 x3).wf = true ∧ (Lit.int .i64 x4).wf = true ∧ (Lit.int .i64 x5).wf = true := by
  obtain ⟨hl, hf⟩ := Rd.struct Try.underlying40 h
  rw [show Try.prog.cellsOf 40 = 6 from by kernel_rfl] at hl
  obtain ⟨c0, c1, c2, c3, c4, c5, rfl⟩ : ∃ c0 c1 c2 c3 c4 c5, cs = [c0, c1, c2, c3, c4, c5] := by
    match cs, hl with
    | [c0, c1, c2, c3, c4, c5], _ => exact ⟨_, _, _, _, _, _, rfl⟩
  have f0 : Rd Try.prog w 35 [c0, c1, c2] := by
    have g : Rd Try.prog w 35 (([c0, c1, c2, c3, c4, c5].drop 0).take (Try.prog.cellsOf 35)) := hf 0 _ rfl
    rw [show Try.prog.cellsOf 35 = 3 from by kernel_rfl] at g
    exact g
  have f1 : Rd Try.prog w 3 [c3] := by
    have g : Rd Try.prog w 3 (([c0, c1, c2, c3, c4, c5].drop 3).take (Try.prog.cellsOf 3)) := hf 1 _ rfl
    rw [show Try.prog.cellsOf 3 = 1 from by kernel_rfl] at g
    exact g
  have f2 : Rd Try.prog w 3 [c4] := by
    have g : Rd Try.prog w 3 (([c0, c1, c2, c3, c4, c5].drop 4).take (Try.prog.cellsOf 3)) := hf 2 _ rfl
    rw [show Try.prog.cellsOf 3 = 1 from by kernel_rfl] at g
    exact g
  have f3 : Rd Try.prog w 3 [c5] := by
    have g : Rd Try.prog w 3 (([c0, c1, c2, c3, c4, c5].drop 5).take (Try.prog.cellsOf 3)) := hf 3 _ rfl
    rw [show Try.prog.cellsOf 3 = 1 from by kernel_rfl] at g
    exact g
  obtain ⟨y0, y1, y2, e0, h0, h1, h2⟩ := rd35 f0
  cases e0
  obtain ⟨y3, e3, h3⟩ := Rd.int Try.underlying3 f1
  cases e3
  obtain ⟨y4, e4, h4⟩ := Rd.int Try.underlying3 f2
  cases e4
  obtain ⟨y5, e5, h5⟩ := Rd.int Try.underlying3 f3
  cases e5
  exact ⟨_, _, _, _, _, _, rfl, h0, h1, h2, h3, h4, h5⟩
theorem rd51 {w : World} {cs : List Value} (h : Rd Try.prog w 51 cs) : ∃ (x0 : Int) (x1 : Int) (x2 : Int) (x3 : Int) (x4 : Int) (x5 : Int) (x6 : Int) (x7 : Int) (x8 : Int) (x9 : Value), cs = [(.int .i64 x0), (.int .i64 x1), (.int .i64 x2), (.int .i64 x3), (.int .i64 x4), (.int .i64 x5), (.int .i64 x6), (.int .i64 x7), (.int .i64 x8), x9] ∧ (Lit.int .i64 x0).wf = true ∧ (Lit.int .i64 x1).wf = true ∧ (Lit.int .i64 x2).wf = true ∧ (Lit.int .i64 x3).wf = true ∧ (Lit.int .i64 x4).wf = true ∧ (Lit.int .i64 x5).wf = true ∧ (Lit.int .i64 x6).wf = true ∧ (Lit.int .i64 x7).wf = true ∧ (Lit.int .i64 x8).wf = true ∧ Rd Try.prog w 43 [x9] := by
  obtain ⟨hl, hf⟩ := Rd.struct Try.underlying51 h
  rw [show Try.prog.cellsOf 51 = 10 from by kernel_rfl] at hl
  obtain ⟨c0, c1, c2, c3, c4, c5, c6, c7, c8, c9, rfl⟩ : ∃ c0 c1 c2 c3 c4 c5 c6 c7 c8 c9, cs = [c0, c1, c2, c3, c4, c5, c6, c7, c8, c9] := by
    match cs, hl with
    | [c0, c1, c2, c3, c4, c5, c6, c7, c8, c9], _ => exact ⟨_, _, _, _, _, _, _, _, _, _, rfl⟩
  have f0 : Rd Try.prog w 3 [c0] := by
    have g : Rd Try.prog w 3 (([c0, c1, c2, c3, c4, c5, c6, c7, c8, c9].drop 0).take (Try.prog.cellsOf 3)) := hf 0 _ rfl
    rw [show Try.prog.cellsOf 3 = 1 from by kernel_rfl] at g
    exact g
  have f1 : Rd Try.prog w 3 [c1] := by
    have g : Rd Try.prog w 3 (([c0, c1, c2, c3, c4, c5, c6, c7, c8, c9].drop 1).take (Try.prog.cellsOf 3)) := hf 1 _ rfl
    rw [show Try.prog.cellsOf 3 = 1 from by kernel_rfl] at g
    exact g
  have f2 : Rd Try.prog w 3 [c2] := by
    have g : Rd Try.prog w 3 (([c0, c1, c2, c3, c4, c5, c6, c7, c8, c9].drop 2).take (Try.prog.cellsOf 3)) := hf 2 _ rfl
    rw [show Try.prog.cellsOf 3 = 1 from by kernel_rfl] at g
    exact g
  have f3 : Rd Try.prog w 3 [c3] := by
    have g : Rd Try.prog w 3 (([c0, c1, c2, c3, c4, c5, c6, c7, c8, c9].drop 3).take (Try.prog.cellsOf 3)) := hf 3 _ rfl
    rw [show Try.prog.cellsOf 3 = 1 from by kernel_rfl] at g
    exact g
  have f4 : Rd Try.prog w 3 [c4] := by
    have g : Rd Try.prog w 3 (([c0, c1, c2, c3, c4, c5, c6, c7, c8, c9].drop 4).take (Try.prog.cellsOf 3)) := hf 4 _ rfl
    rw [show Try.prog.cellsOf 3 = 1 from by kernel_rfl] at g
    exact g
  have f5 : Rd Try.prog w 3 [c5] := by
    have g : Rd Try.prog w 3 (([c0, c1, c2, c3, c4, c5, c6, c7, c8, c9].drop 5).take (Try.prog.cellsOf 3)) := hf 5 _ rfl
    rw [show Try.prog.cellsOf 3 = 1 from by kernel_rfl] at g
    exact g
  have f6 : Rd Try.prog w 35 [c6, c7, c8] := by
    have g : Rd Try.prog w 35 (([c0, c1, c2, c3, c4, c5, c6, c7, c8, c9].drop 6).take (Try.prog.cellsOf 35)) := hf 6 _ rfl
    rw [show Try.prog.cellsOf 35 = 3 from by kernel_rfl] at g
    exact g
  have f7 : Rd Try.prog w 43 [c9] := by
    have g : Rd Try.prog w 43 (([c0, c1, c2, c3, c4, c5, c6, c7, c8, c9].drop 9).take (Try.prog.cellsOf 43)) := hf 7 _ rfl
    rw [show Try.prog.cellsOf 43 = 1 from by kernel_rfl] at g
    exact g
  obtain ⟨y0, e0, h0⟩ := Rd.int Try.underlying3 f0
  cases e0
  obtain ⟨y1, e1, h1⟩ := Rd.int Try.underlying3 f1
  cases e1
  obtain ⟨y2, e2, h2⟩ := Rd.int Try.underlying3 f2
  cases e2
  obtain ⟨y3, e3, h3⟩ := Rd.int Try.underlying3 f3
  cases e3
  obtain ⟨y4, e4, h4⟩ := Rd.int Try.underlying3 f4
  cases e4
  obtain ⟨y5, e5, h5⟩ := Rd.int Try.underlying3 f5
  cases e5
  obtain ⟨y6, y7, y8, e6, h6, h7, h8⟩ := rd35 f6
  cases e6
  exact ⟨_, _, _, _, _, _, _, _, _, _, rfl, h0, h1, h2, h3, h4, h5, h6, h7, h8, f7⟩
theorem rd27 {w : World} {cs : List Value} (h : Rd Try.prog w 27 cs) : ∃ (x0 : Int) (x1 : Int) (x2 : Int) (x3 : Int), cs = [(.int .i64 x0), (.int .i64 x1), (.int .i64 x2), (.int .i64 x3)] ∧ (Lit.int .i64 x0).wf = true ∧ (Lit.int .i64 x1).wf = true ∧ (Lit.int .i64 x2).wf = true ∧ (Lit.int .i64 x3).wf = true := by
  obtain ⟨hl, hf⟩ := Rd.struct Try.underlying27 h
  rw [show Try.prog.cellsOf 27 = 4 from by kernel_rfl] at hl
  obtain ⟨c0, c1, c2, c3, rfl⟩ : ∃ c0 c1 c2 c3, cs = [c0, c1, c2, c3] := by
    match cs, hl with
    | [c0, c1, c2, c3], _ => exact ⟨_, _, _, _, rfl⟩
  have f0 : Rd Try.prog w 3 [c0] := by
    have g : Rd Try.prog w 3 (([c0, c1, c2, c3].drop 0).take (Try.prog.cellsOf 3)) := hf 0 _ rfl
    rw [show Try.prog.cellsOf 3 = 1 from by kernel_rfl] at g
    exact g
  have f1 : Rd Try.prog w 3 [c1] := by
    have g : Rd Try.prog w 3 (([c0, c1, c2, c3].drop 1).take (Try.prog.cellsOf 3)) := hf 1 _ rfl
    rw [show Try.prog.cellsOf 3 = 1 from by kernel_rfl] at g
    exact g
  have f2 : Rd Try.prog w 3 [c2] := by
    have g : Rd Try.prog w 3 (([c0, c1, c2, c3].drop 2).take (Try.prog.cellsOf 3)) := hf 2 _ rfl
    rw [show Try.prog.cellsOf 3 = 1 from by kernel_rfl] at g
    exact g
  have f3 : Rd Try.prog w 3 [c3] := by
    have g : Rd Try.prog w 3 (([c0, c1, c2, c3].drop 3).take (Try.prog.cellsOf 3)) := hf 3 _ rfl
    rw [show Try.prog.cellsOf 3 = 1 from by kernel_rfl] at g
    exact g
  obtain ⟨y0, e0, h0⟩ := Rd.int Try.underlying3 f0
  cases e0
  obtain ⟨y1, e1, h1⟩ := Rd.int Try.underlying3 f1
  cases e1
  obtain ⟨y2, e2, h2⟩ := Rd.int Try.underlying3 f2
  cases e2
  obtain ⟨y3, e3, h3⟩ := Rd.int Try.underlying3 f3
  cases e3
  exact ⟨_, _, _, _, rfl, h0, h1, h2, h3⟩
end Go.Proofs.Ytgcnebacjkpfmaa
