/- MachineNothing: a round, worked out. -/
import Derived.Test.YtcdkbkgpgemfgaaGreatDoorKw
set_option maxRecDepth 1000000
namespace Go.Proofs.YtcdkbkgpgemfgaaGreatDoor
open Go Go.Jac
def mSetX : X := .agg [.int .i64 20, .int .i64 10, .int .i64 3, .int .i64 10, .int .i64 10]
noncomputable def mr (T : XT) (k : Nat) (args : List X) (S : XS) (f : X → XS → Bool) : Bool := tst (xRun pg (gvD glN (drR [] T)) intr1 3000 60 true k args S) f
def setC (S : XS) (b o : Nat) (x : X) (f : XS → Bool) : Bool := match findB S.bs b with
  | some (.bl t op cs) => f (S.upd b (.bl t op (ow cs o [x])))
  | _ => false
theorem setC_ok {S : XS} {b o : Nat} {x : X} {f : XS → Bool} (h : setC S b o x f = true) : ∃ S', f S' = true ∧ ∃ t op cs, findB S.bs b = some (.bl t op cs) ∧ S' = S.upd b (.bl t op (ow cs o [x])) := by
  unfold setC at h
  split at h
  · rename_i t op cs hf
    exact ⟨_, h, t, op, cs, hf, rfl⟩
  · cases h
def idR : List (Nat × XB) → RB
  | [] => []
  | (b, _) :: r => (b, b) :: idR r
/-- The machine as it is between rounds: the clock is sym 0 0, the steps are sym 0 1. -/
noncomputable def mInv (f : Nat → Nat → XS → XS → Bool) : Bool := mr [] 7 [mSetX] s0 fun p S1 => match p with
  | .ptr b o => setC S1 1011 3 (.sym 0 0) fun S2 => setC S2 1068 2 (.sym 0 1) fun S => f b o S1 S
  | _ => false
def sameS (τ : RS) (S S' : XS) : Bool := cond (smS (idR S.bs) τ [] S.bs S'.bs) (below S.nx (idR S.bs)) false
def slLen (n : Nat) : X → Bool
  | .sl _ _ m _ => Nat.beq m n
  | .so _ _ m _ => Nat.beq m n
  | _ => false
/-- An outcome: a kind, a thread, a status, nothing else. -/
def isOut (k st : Int) : X → Bool
  | .agg [.int .i64 a, .int .i64 b, .int .i64 c, .lit (.slice none 0 0), .lit (.slice none 0 0)] => cond (decide (a = k)) (cond (decide (b = 0)) (decide (c = st)) false) false
  | _ => false
def outX (k st : Int) : X := .agg [.int .i64 k, .int .i64 0, .int .i64 st, .lit (.slice none 0 0), .lit (.slice none 0 0)]
/-- A round: what is there behind the step. -/
noncomputable def mRound (T : XT) (sX nw : X) (k st : Int) : Bool := mInv fun b o _ S =>
  mr T 9 [.ptr b o] S fun kp Sa => cond (isPtr kp) (
  mr T 29 [kp] Sa fun n0 Sb => cond (beq0 n0 (.sym 0 0)) (
  mr T 10 [.ptr b o, sX] Sb fun out Sc => cond (isOut k st out) (
  mr T 30 [.ptr b o] Sc fun n1 Sd => cond (beq0 n1 (.sym 0 6)) (
  mr T 9 [.ptr b o] Sd fun kp2 Se => cond (beq0 kp2 kp) (
  mr T 14 [kp] Se fun ob Sf => cond (slLen 3 ob) (
  mr T 31 [.ptr b o] Sf fun rn Sg => cond (slLen 1 rn) (
  mr T 9 [.ptr b o] Sg fun kp3 Si => cond (beq0 kp3 kp) (
    mr T 29 [kp] Si fun n2 Sj => cond (beq0 n2 nw) (sameS [(0, 0, nw), (0, 1, .sym 0 6)] S Sj) false) false) false) false) false) false) false) false) false
def mT : XT := [(.add, .sym 0 1, .int .i64 1, .sym 0 6), (.sub, .int .i64 1099511627776, .sym 0 0, .sym 0 5)]
def mTk : XT := mT ++ [(.eql, .sym 0 2, .int .i64 1, .bool false), (.eql, .sym 0 2, .int .i64 2, .bool false)]
def mTn : XT := mT ++ [(.lss, .sym 0 3, .int .i64 0, .bool true)]
def mTg : XT := mT ++ [(.lss, .sym 0 3, .int .i64 0, .bool false), (.gtr, .sym 0 3, .sym 0 5, .bool true)]
def mTv : XT := mT ++ [(.lss, .sym 0 3, .int .i64 0, .bool false), (.gtr, .sym 0 3, .sym 0 5, .bool false), (.add, .sym 0 0, .sym 0 3, .sym 0 4)]
def stX (kind by_ : X) (x : Nat → Int) (q7 : Option Addr) (n7 c7 : Nat) (q8 : Option Addr) (n8 c8 : Nat) : X :=
  .agg [kind, .lit (.int .i64 (x 0)), by_, .lit (.int .i64 (x 1)), .lit (.int .i64 (x 2)), .lit (.int .i64 (x 3)), .lit (.int .i64 (x 4)), .lit (.int .i64 (x 5)), .lit (.int .i64 (x 6)), .lit (.int .i64 (x 7)), .lit (.slice q7 n7 c7), .lit (.slice q8 n8 c8)]
section
variable (x : Nat → Int) (q7 : Option Addr) (n7 c7 : Nat) (q8 : Option Addr) (n8 c8 : Nat)
theorem mn_init : (mInv fun _ _ S1 S => sameS [(0, 0, .int .i64 0), (0, 1, .int .i64 0)] S S1) = true := by kernel_rfl
theorem mn_self : (mInv fun b _ _ S => isB (idR S.bs) b b) = true := by kernel_rfl
theorem mn_k : mRound mTk (stX (.sym 0 2) (.sym 0 3) x q7 n7 c7 q8 n8 c8) (.sym 0 0) 0 0 = true := by kernel_rfl
theorem mn_n : mRound mTn (stX (.int .i64 2) (.sym 0 3) x q7 n7 c7 q8 n8 c8) (.sym 0 0) 4 (-10) = true := by kernel_rfl
theorem mn_g : mRound mTg (stX (.int .i64 2) (.sym 0 3) x q7 n7 c7 q8 n8 c8) (.sym 0 0) 4 (-10) = true := by kernel_rfl
theorem mn_v : mRound mTv (stX (.int .i64 2) (.sym 0 3) x q7 n7 c7 q8 n8 c8) (.sym 0 4) 4 0 = true := by kernel_rfl
end
end Go.Proofs.YtcdkbkgpgemfgaaGreatDoor
