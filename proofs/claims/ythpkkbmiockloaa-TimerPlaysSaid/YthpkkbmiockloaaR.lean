/- What the arguments of the laws are, printed by a program of this session's own. -/
import Derived.Test.YthpkkbmiockloaaSf
import Derived.Test.YthpkkbmiockloaaProg
set_option maxRecDepth 100000
namespace Go.Proofs.Ythpkkbmiockloaa
open Go Go.Jac
theorem rd45 {w : World} {cs : List Value} (h : Rd Try.prog w 45 cs) : ∃ (x0 : Int) (x1 : Int) (x2 : Int), cs = [(.int .i64 x0), (.int .i64 x1), (.int .i64 x2)] ∧ (Lit.int .i64 x0).wf = true ∧ (Lit.int .i64 x1).wf = true ∧ (Lit.int .i64 x2).wf = true := by
  obtain ⟨hl, hf⟩ := Rd.struct Try.underlying45 h
  rw [show Try.prog.cellsOf 45 = 3 from by kernel_rfl] at hl
  obtain ⟨c0, c1, c2, rfl⟩ : ∃ c0 c1 c2, cs = [c0, c1, c2] := by
    match cs, hl with
    | [c0, c1, c2], _ => exact ⟨_, _, _, rfl⟩
  have f0 : Rd Try.prog w 3 [c0] := by
    have g : Rd Try.prog w 3 (([c0, c1, c2].drop 0).take (Try.prog.cellsOf 3)) := hf 0 _ rfl
    rw [show Try.prog.cellsOf 3 = 1 from by kernel_rfl] at g
    exact g
  have f1 : Rd Try.prog w 3 [c1] := by
    have g : Rd Try.prog w 3 (([c0, c1, c2].drop 1).take (Try.prog.cellsOf 3)) := hf 1 _ rfl
    rw [show Try.prog.cellsOf 3 = 1 from by kernel_rfl] at g
    exact g
  have f2 : Rd Try.prog w 3 [c2] := by
    have g : Rd Try.prog w 3 (([c0, c1, c2].drop 2).take (Try.prog.cellsOf 3)) := hf 2 _ rfl
    rw [show Try.prog.cellsOf 3 = 1 from by kernel_rfl] at g
    exact g
  obtain ⟨y0, e0, h0⟩ := Rd.int Try.underlying3 f0
  cases e0
  obtain ⟨y1, e1, h1⟩ := Rd.int Try.underlying3 f1
  cases e1
  obtain ⟨y2, e2, h2⟩ := Rd.int Try.underlying3 f2
  cases e2
  exact ⟨_, _, _, rfl, h0, h1, h2⟩
end Go.Proofs.Ythpkkbmiockloaa
