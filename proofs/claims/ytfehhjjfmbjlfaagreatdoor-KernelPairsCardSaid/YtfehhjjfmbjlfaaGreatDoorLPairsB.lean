/- KernelPairs: runs. -/
import Derived.Test.YtfehhjjfmbjlfaaGreatDoorLPairsA
set_option maxRecDepth 1000000
namespace Go.Proofs.YtfehhjjfmbjlfaaGreatDoor
open Go Go.Jac
/-- signal.User of the law's own number, told: what it comes to. -/
def intr2 (r : X) (k : Nat) (args : List X) : Option (XS → R (X × XS)) := cond (Nat.beq k 10) (match args with | [.sym 0 0] => some fun S => .ok (r, S) | _ => none) (intr1 k args)
theorem intr2_ok {AT : Nat → Nat → Value} {w0 : World} {F : List HP} (hN : Nmd w0) (hm : Old w0 ∈ F) {r : X} {u : Int} (h0 : AT 0 0 = .int .i64 u) (hr : ∀ σ : Sg, den AT σ r = some (.int .i64 (maskI u))) : IOk AT pg w0 F (intr2 r) := by
  intro k args f h
  unfold intr2 at h
  cases hk : Nat.beq k 10 with
  | false => rw [hk] at h; exact intr1_ok hN hm k args f h
  | true =>
    rw [hk, cond_true] at h
    have hk := beq_eq hk
    subst hk
    split at h
    · cases h
      refine ⟨fun _ _ => rfl, fun S x S' h σ vs w K hd rp k => ?_⟩
      cases h
      have e : vs = [.int .i64 u] := by
        refine hd.uniq ?_
        show [some (AT 0 0)] = _
        rw [h0]; rfl
      subst e
      exact user_ok hN (List.mem_append_right _ hm) rp.d fun w' d => k σ _ w' (Sg.le.refl σ) ⟨d, rp.fresh⟩ (hr σ)
    · cases h
def pairsX : XX := [(.add, 1, 1, 2)]
noncomputable def pairsRun (r : X) (T : XT) (args : List X) : R (X × XS) := xRun pg (gvD glN (drR pairsX T)) (intr2 r) 3000 60 true 3 args s0
def pairsB (draw : Int) (c : Nat) : Int := if c = 1 then draw else if c = 2 then IntKind.i64.wrap (draw + 1) else 0
theorem pairs_D {draw u q m : Int} (h1 : I64 draw) {T : XT} (hT : ∀ op x y z, (op, x, y, z) ∈ T → Ent (drW (pairsB draw) (pairE u q m) pairsX T).at_ op x y z) : DrOk (drW (pairsB draw) (pairE u q m) pairsX T) := by
  refine drW_ok (fun c => ?_) (fun c => ?_) (fun op j n i h => ?_) hT
  · unfold pairsB; split
    · exact h1
    · split
      · exact I64.wrap _
      · exact ⟨by decide, by decide⟩
  · unfold pairE; split
    · rfl
    · split <;> rfl
  · unfold pairsX at h
    cases List.mem_singleton.1 h
    exact ⟨by decide, rfl⟩
theorem pairs_of {draw u q m : Int} (h1 : I64 draw) {T : XT} (hT : ∀ op x y z, (op, x, y, z) ∈ T → Ent (drW (pairsB draw) (pairE u q m) pairsX T).at_ op x y z) {r a : X} (hr : ∀ σ : Sg, den (drW (pairsB draw) (pairE u q m) pairsX T).at_ σ r = some (.int .i64 (maskI u)))
    (ha : den (drW (pairsB draw) (pairE u q m) pairsX T).at_ (fun _ => none) a = some (.int .i64 q)) (h : isTrue (pairsRun r T [a, .sym 0 0, .sym 1 0]) = true) {w0 w : World} {L : List HP} {K : Value → WP} (hN : Nmd w0) (hm : Old w0 ∈ L) (d : D w0 L w) (k : ∀ w', D w0 L w' → K (.bool true) w') :
    Cl pg 3 #[.int .i64 q, .int .i64 u, .int .i64 draw] K w := by
  have hD := pairs_D (u := u) (q := q) (m := m) h1 hT
  obtain ⟨S, hS⟩ := isTrue_ok h
  unfold pairsRun at hS
  rw [gvD_drR glN (pairsB draw) (pairE u q m) pairsX T] at hS
  refine (run_ok pg_mixed (at_one hD) (gvD_ok hD (glN_ok hN hm)) (fun _ => intr2_ok hN (List.mem_append_right _ hm) rfl hr) 60 []).fn 3 [a, .sym 0 0, .sym 1 0] s0 _ S hS (fun _ => none) [.int .i64 q, .int .i64 u, .int .i64 draw] w K (DL.cons ha rfl) ⟨d, fun _ _ => rfl⟩ fun σ v w' _ rp hv => ?_
  cases den_bool.1 hv
  exact k w' (D.under_ rp.d)
end Go.Proofs.YtfehhjjfmbjlfaaGreatDoor
