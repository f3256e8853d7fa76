/- Objects: bits of what is shown. -/
import Derived.Test.YtbbenmflickapaaDoorOl
set_option maxRecDepth 100000
namespace Go.Proofs.YtbbenmflickapaaDoor
open Go Go.Jac
theorem ofInt_wrap (v : BitVec 64) : BitVec.ofInt 64 (IntKind.i64.wrap (v.toNat : Nat)) = v := by
  apply BitVec.eq_of_toNat_eq
  rw [BitVec.toNat_ofInt, IntKind.wrap_i64]
  have := v.isLt
  omega
theorem ior_bv (a b : Int) : BitVec.ofInt 64 (ior .i64 a b) = BitVec.ofInt 64 a ||| BitVec.ofInt 64 b := ofInt_wrap _
theorem iandNot_bv (a b : Int) : BitVec.ofInt 64 (iandNot .i64 a b) = BitVec.ofInt 64 a &&& ~~~ BitVec.ofInt 64 b := ofInt_wrap _
/-- Neither bit 1 nor bit 2 is in such a set. -/
def clean (f s : Int) : Int := ior .i64 (iandNot .i64 f 6) (iandNot .i64 s 6)
theorem clean_bv (f s : Int) : BitVec.ofInt 64 (clean f s) = (BitVec.ofInt 64 f &&& ~~~ 6#64) ||| (BitVec.ofInt 64 s &&& ~~~ 6#64) := by
  unfold clean
  rw [ior_bv, iandNot_bv, iandNot_bv]; rfl
theorem clean_and (f s : Int) : iandNot .i64 (clean f s) 2 = clean f s := by
  have h : (BitVec.ofInt 64 (clean f s) &&& ~~~ 2#64) = BitVec.ofInt 64 (clean f s) := by
    rw [clean_bv]
    apply BitVec.eq_of_getLsbD_eq
    intro i hi
    simp only [BitVec.getLsbD_and, BitVec.getLsbD_or, BitVec.getLsbD_not, hi, decide_true, Bool.true_and]
    by_cases e : i = 1
    · subst e; simp
    · have : (2#64).getLsbD i = false := by
        rw [show (2#64) = BitVec.twoPow 64 1 from rfl, BitVec.getLsbD_twoPow]
        have e' : ¬ 1 = i := fun h => e h.symm
        simp [e']
      simp [this]
  show IntKind.i64.wrap ((BitVec.ofInt 64 (clean f s) &&& ~~~ 2#64).toNat : Nat) = clean f s
  rw [h, clean_bv]
  show _ = IntKind.i64.wrap ((BitVec.ofInt 64 (iandNot .i64 f 6) ||| BitVec.ofInt 64 (iandNot .i64 s 6)).toNat : Nat)
  rw [iandNot_bv, iandNot_bv]; rfl
/-- What an end shows its peer: that it is closed; and that is new. -/
theorem clean_sh (x : Hd) (f s : Int) (h : x.shows = clean f s) : shN x 2 4 = ior .i64 (clean f s) 4 := by
  unfold shN; rw [h, clean_and]
theorem clean_or (f s : Int) : ior .i64 (clean f s) 4 ≠ clean f s := by
  intro h
  have h2 := congrArg (BitVec.ofInt 64) h
  rw [ior_bv, clean_bv] at h2
  have h3 := congrArg (fun v => v.getLsbD 2) h2
  simp at h3
end Go.Proofs.YtbbenmflickapaaDoor
