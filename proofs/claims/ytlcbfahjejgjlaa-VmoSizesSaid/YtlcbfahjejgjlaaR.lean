/- What the arguments of the laws are, printed by a program of this session's own. -/
import Derived.Test.YtlcbfahjejgjlaaSf
import Derived.Test.YtlcbfahjejgjlaaProg
set_option maxRecDepth 100000
namespace Go.Proofs.Ytlcbfahjejgjlaa
open Go Go.Jac
theorem rd24 {w : World} {cs : List Value} (h : Rd Try.prog w 24 cs) : ∃ (x0 : Value) (x1 : Value) (x2 : Value) (x3 : Int), cs = [x0, x1, x2, (.int .i64 x3)] ∧ Rd Try.prog w 22 [x0] ∧ Rd Try.prog w 22 [x1] ∧ Rd Try.prog w 22 [x2] ∧ (Lit.int .i64 x3).wf = true := by
  obtain ⟨hl, hf⟩ := Rd.struct Try.underlying24 h
  rw [show Try.prog.cellsOf 24 = 4 from by kernel_rfl] at hl
  obtain ⟨c0, c1, c2, c3, rfl⟩ : ∃ c0 c1 c2 c3, cs = [c0, c1, c2, c3] := by
    match cs, hl with
    | [c0, c1, c2, c3], _ => exact ⟨_, _, _, _, rfl⟩
  have f0 : Rd Try.prog w 22 [c0] := by
    have g : Rd Try.prog w 22 (([c0, c1, c2, c3].drop 0).take (Try.prog.cellsOf 22)) := hf 0 _ rfl
    rw [show Try.prog.cellsOf 22 = 1 from by kernel_rfl] at g
    exact g
  have f1 : Rd Try.prog w 22 [c1] := by
    have g : Rd Try.prog w 22 (([c0, c1, c2, c3].drop 1).take (Try.prog.cellsOf 22)) := hf 1 _ rfl
    rw [show Try.prog.cellsOf 22 = 1 from by kernel_rfl] at g
    exact g
  have f2 : Rd Try.prog w 22 [c2] := by
    have g : Rd Try.prog w 22 (([c0, c1, c2, c3].drop 2).take (Try.prog.cellsOf 22)) := hf 2 _ rfl
    rw [show Try.prog.cellsOf 22 = 1 from by kernel_rfl] at g
    exact g
  have f3 : Rd Try.prog w 3 [c3] := by
    have g : Rd Try.prog w 3 (([c0, c1, c2, c3].drop 3).take (Try.prog.cellsOf 3)) := hf 3 _ rfl
    rw [show Try.prog.cellsOf 3 = 1 from by kernel_rfl] at g
    exact g
  obtain ⟨y3, e3, h3⟩ := Rd.int Try.underlying3 f3
  cases e3
  exact ⟨_, _, _, _, rfl, f0, f1, f2, h3⟩
end Go.Proofs.Ytlcbfahjejgjlaa
