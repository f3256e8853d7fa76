/- Bits: what is in others. -/
import Derived.Test.YtcdkbkgpgemfgaaGreatDoorSk
set_option maxRecDepth 100000
namespace Go.Proofs.YtcdkbkgpgemfgaaGreatDoor
open Go Go.Jac
theorem iandNot_0 {a b : Int} : iandNot .i64 a b = 0 ↔ (BitVec.ofInt 64 a &&& ~~~ BitVec.ofInt 64 b) = 0#64 := by
  show IntKind.i64.wrap ((BitVec.ofInt 64 a &&& ~~~ BitVec.ofInt 64 b).toNat : Nat) = 0 ↔ _
  rw [IntKind.wrap_i64]
  have h := (BitVec.ofInt 64 a &&& ~~~ BitVec.ofInt 64 b).isLt
  constructor
  · intro e
    apply BitVec.eq_of_toNat_eq
    have : (0#64).toNat = 0 := rfl
    rw [this]
    omega
  · intro e; rw [e, show (0#64).toNat = 0 from rfl]; omega
theorem or_eq {n m : Int} (h : I64 n) : ior .i64 n m = n ↔ iandNot .i64 m n = 0 := by
  rw [iandNot_0]
  have hl : (BitVec.ofInt 64 n ||| BitVec.ofInt 64 m).toNat < 2 ^ 64 := BitVec.isLt _
  have hn : (BitVec.ofInt 64 n).toNat = (n % 18446744073709551616).toNat := ofInt_nat n
  have key : (IntKind.i64.wrap ((BitVec.ofInt 64 n ||| BitVec.ofInt 64 m).toNat : Int) = n) ↔ (BitVec.ofInt 64 n ||| BitVec.ofInt 64 m) = BitVec.ofInt 64 n := by
    rw [← BitVec.toNat_inj, hn, IntKind.wrap_i64]
    unfold I64 at h
    generalize (BitVec.ofInt 64 n ||| BitVec.ofInt 64 m).toNat = x at *
    omega
  show (IntKind.i64.wrap ((BitVec.ofInt 64 n ||| BitVec.ofInt 64 m).toNat : Int) = n) ↔ _
  rw [key]
  constructor
  · intro e
    apply BitVec.eq_of_getLsbD_eq
    intro i hi
    have e2 := congrArg (fun x => x.getLsbD i) e
    simp only [BitVec.getLsbD_or] at e2
    simp only [BitVec.getLsbD_and, BitVec.getLsbD_not, BitVec.getLsbD_zero, hi, decide_true, Bool.true_and]
    revert e2
    generalize (BitVec.ofInt 64 n).getLsbD i = p
    generalize (BitVec.ofInt 64 m).getLsbD i = q
    cases p <;> cases q <;> simp
  · intro e
    apply BitVec.eq_of_getLsbD_eq
    intro i hi
    have e2 := congrArg (fun x => x.getLsbD i) e
    simp only [BitVec.getLsbD_or]
    simp only [BitVec.getLsbD_and, BitVec.getLsbD_not, BitVec.getLsbD_zero, hi, decide_true, Bool.true_and] at e2
    revert e2
    generalize (BitVec.ofInt 64 n).getLsbD i = p
    generalize (BitVec.ofInt 64 m).getLsbD i = q
    cases p <;> cases q <;> simp
end Go.Proofs.YtcdkbkgpgemfgaaGreatDoor
