/- Calls within a walk, worked out by the machine. -/
import Derived.Test.YtcdkbkgpgemfgaaGreatDoorKz
import Derived.Test.YtcdkbkgpgemfgaaGreatDoorKy
set_option maxRecDepth 100000
namespace Go.Proofs.YtcdkbkgpgemfgaaGreatDoor
open Go Go.Jac
/-- A call, worked out. -/
theorem seg {D0 : Dr} (hD : DrOk D0) {w0 w : World} {L : List HP} {σ : Sg} {S S' : XS} {k : Nat} {args : List X} {x : X} {vs : List Value} {K : Value → WP} (hN : Nmd w0) (hm : Old w0 ∈ L)
    (h : xRun pg (gvD glN D0) intr1 3000 60 true k args S = .ok (x, S')) (hd : DL D0.at_ σ args vs) (r : Rep D0.at_ pg w0 L σ S w)
    (kk : ∀ σ' v w', σ.le σ' → Rep D0.at_ pg w0 L σ' S' w' → den D0.at_ σ' x = some v → K v w') : Cl pg k vs.toArray K w :=
  (run_ok pg_mixed (at_one hD) (gvD_ok hD (glN_ok hN hm)) (fun _ => intr1_ok hN (List.mem_append_right _ hm)) 60 []).fn k args S x S' h σ vs w K hd r fun σ' v w' hle r' hv => kk σ' v w' hle r' hv
theorem rep0 {AT : Nat → Nat → Value} {w0 w : World} {L : List HP} (d : D w0 L w) : Rep AT pg w0 L (fun _ => none) s0 w := ⟨d, fun _ _ => rfl⟩
/-- What holds of a run's end. -/
def tst (r : R (X × XS)) (f : X → XS → Bool) : Bool := match r with
  | .ok (x, S) => f x S
  | .no _ => false
theorem tst_ok {r : R (X × XS)} {f : X → XS → Bool} (h : tst r f = true) : ∃ x S, r = .ok (x, S) ∧ f x S = true := by
  unfold tst at h
  split at h
  · exact ⟨_, _, rfl, h⟩
  · cases h
def isPtr : X → Bool
  | .ptr _ _ => true
  | _ => false
theorem isPtr_ok {x : X} (h : isPtr x = true) : ∃ b o, x = .ptr b o := by
  cases x <;> first | exact ⟨_, _, rfl⟩ | cases h
def isTt : X → Bool
  | .bool true => true
  | _ => false
theorem isTt_ok {x : X} (h : isTt x = true) : x = .bool true := by
  unfold isTt at h
  split at h
  · rfl
  · cases h
def isInt (n : Int) : X → Bool
  | .int .i64 m => decide (m = n)
  | _ => false
theorem isInt_ok {x : X} {n : Int} (h : isInt n x = true) : x = .int .i64 n := by
  unfold isInt at h
  split at h
  · rw [of_decide_eq_true h]
  · cases h
/-- An operation's answer: a status, nothing else. -/
def isSt (n : Int) : X → Bool
  | .agg [.int .i64 m, .lit (.slice none 0 0), .lit (.slice none 0 0), .bool false, .lit (.slice none 0 0)] => decide (m = n)
  | _ => false
theorem isSt_ok {x : X} {n : Int} (h : isSt n x = true) : x = .agg [.int .i64 n, .lit (.slice none 0 0), .lit (.slice none 0 0), .bool false, .lit (.slice none 0 0)] := by
  unfold isSt at h
  split at h
  · rw [of_decide_eq_true h]
  · cases h
theorem st_den {AT : Nat → Nat → Value} {σ : Sg} {n : Int} {v : Value} (h : den AT σ (.agg [.int .i64 n, .lit (.slice none 0 0), .lit (.slice none 0 0), .bool false, .lit (.slice none 0 0)]) = some v) : v = .agg #[.int .i64 n, .slice none 0 0, .slice none 0 0, .bool false, .slice none 0 0] := by
  obtain ⟨vs, hd, rfl⟩ := den_agg.1 h
  have : vs = [.int .i64 n, .slice none 0 0, .slice none 0 0, .bool false, .slice none 0 0] := hd.uniq rfl
  rw [this]
end Go.Proofs.YtcdkbkgpgemfgaaGreatDoor
