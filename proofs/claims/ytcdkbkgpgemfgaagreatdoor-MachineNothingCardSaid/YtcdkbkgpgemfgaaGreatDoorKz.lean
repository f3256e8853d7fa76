/- awake, told; runs with unknown draws. -/
import Derived.Test.YtcdkbkgpgemfgaaGreatDoorKs
import Derived.Test.YtcdkbkgpgemfgaaGreatDoorKx
set_option maxRecDepth 100000
namespace Go.Proofs.YtcdkbkgpgemfgaaGreatDoor
open Go Go.Jac
def intr1 (k : Nat) (args : List X) : Option (XS → R (X × XS)) := cond (hasN awL k) (match args with | [] => some fun S => .ok (.bool true, S) | _ => none) (intr0 k args)
theorem intr1_ok {AT : Nat → Nat → Value} {w0 : World} {F : List HP} (hN : Nmd w0) (hm : Old w0 ∈ F) : IOk AT pg w0 F intr1 := by
  intro k args f h
  unfold intr1 at h
  cases hk : hasN awL k with
  | false => rw [hk] at h; exact intr0_ok k args f h
  | true =>
    rw [hk, cond_true] at h
    have hk := hasN_iff.1 hk
    split at h
    · cases h
      refine ⟨awL_call k hk, fun S x S' h σ vs w K hd r k => ?_⟩
      cases h
      cases vs with
      | cons _ _ => cases hd
      | nil => exact awake_ok hk hN (List.mem_append_right _ hm) r.d fun w' d => k σ _ w' (Sg.le.refl σ) ⟨d, r.fresh⟩ rfl
    · cases h
noncomputable def lawRun (E : XX) (T : XT) (k : Nat) (args : List X) : R (X × XS) := xRun pg (gvD glN (drR E T)) intr1 3000 60 true k args s0
theorem law_of {bs : Nat → Int} {ex : Nat → Value} {E : XX} {T : XT} (hD : DrOk (drW bs ex E T)) {w0 w : World} {L : List HP} {k : Nat} {args : List X} {vs : List Value} {K : Value → WP} (hN : Nmd w0) (hm : Old w0 ∈ L) (hd : DL (drW bs ex E T).at_ (fun _ => none) args vs) (h : isTrue (lawRun E T k args) = true)
    (d : D w0 L w) (kk : ∀ w', D w0 L w' → K (.bool true) w') : Cl pg k vs.toArray K w := by
  obtain ⟨S, hS⟩ := isTrue_ok h
  unfold lawRun at hS
  rw [gvD_drR glN bs ex E T] at hS
  refine (run_ok pg_mixed (at_one hD) (gvD_ok hD (glN_ok hN hm)) (fun _ => intr1_ok hN (List.mem_append_right _ hm)) 60 []).fn k args s0 _ S hS (fun _ => none) vs w K hd ⟨d, fun _ _ => rfl⟩ fun σ v w' _ r hv => ?_
  cases den_bool.1 hv
  exact kk w' (D.under_ r.d)
/-- The same with a table of least and greatest numbers. -/
noncomputable def lawRunM (E : XX) (T : XT) (M : XM) (k : Nat) (args : List X) : R (X × XS) := xRun pg (gvD glN (drMR E T M)) intr1 3000 60 true k args s0
theorem law_ofM {bs : Nat → Int} {ex : Nat → Value} {E : XX} {T : XT} {M : XM} (hD : DrOk (drM bs ex E T M)) {w0 w : World} {L : List HP} {k : Nat} {args : List X} {vs : List Value} {K : Value → WP} (hN : Nmd w0) (hm : Old w0 ∈ L) (hd : DL (drM bs ex E T M).at_ (fun _ => none) args vs) (h : isTrue (lawRunM E T M k args) = true)
    (d : D w0 L w) (kk : ∀ w', D w0 L w' → K (.bool true) w') : Cl pg k vs.toArray K w := by
  obtain ⟨S, hS⟩ := isTrue_ok h
  unfold lawRunM at hS
  rw [gvD_drM glN bs ex E T M] at hS
  refine (run_ok pg_mixed (at_one hD) (gvD_ok hD (glN_ok hN hm)) (fun _ => intr1_ok hN (List.mem_append_right _ hm)) 60 []).fn k args s0 _ S hS (fun _ => none) vs w K hd ⟨d, fun _ _ => rfl⟩ fun σ v w' _ r hv => ?_
  cases den_bool.1 hv
  exact kk w' (D.under_ r.d)
def allTrue : List (R (X × XS)) → Bool
  | [] => true
  | r :: l => cond (isTrue r) (allTrue l) false
theorem allTrue_mem : ∀ {l : List (R (X × XS))}, allTrue l = true → ∀ r ∈ l, isTrue r = true
  | [], _, r, h => by cases h
  | x :: l, h, r, hr => by
    unfold allTrue at h
    cases hx : isTrue x with
    | false => rw [hx] at h; cases h
    | true =>
      rw [hx] at h
      rcases List.mem_cons.1 hr with rfl | hr
      · exact hx
      · exact allTrue_mem h r hr
end Go.Proofs.YtcdkbkgpgemfgaaGreatDoor
