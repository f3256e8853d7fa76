/- KernelPairs. -/
import Derived.Test.YtfehhjjfmbjlfaaGreatDoorLPairsD
set_option maxRecDepth 1000000
namespace Go.Proofs.YtfehhjjfmbjlfaaGreatDoor
open Go Go.Jac
theorem pairs_ok {q u draw : Int} (h1 : I64 draw) {w0 w : World} {L : List HP} {K : Value → WP} (hN : Nmd w0) (hm : Old w0 ∈ L) (d : D w0 L w) (k : ∀ w', D w0 L w' → K (.bool true) w') :
    Cl pg 3 #[.int .i64 q, .int .i64 u, .int .i64 draw] K w := by
  rcases Int.lt_or_le q 0 with h0 | h0
  · refine pairs_of (m := 0) (r := .int .i64 (maskI u)) (a := .sym 0 1) (T := pairsTl) h1 (fun op x y z h => ?_) (fun _ => rfl) rfl (pairs_l _) hN hm d k
    unfold pairsTl at h
    cases List.mem_singleton.1 h
    refine ⟨.i64, q, .i64, 0, rfl, rfl, rfl, rfl, rfl, ?_⟩
    simp [intBin, vT]; omega
  · rcases Int.lt_or_le 3 q with h3 | h3
    · refine pairs_of (m := 0) (r := .int .i64 (maskI u)) (a := .sym 0 1) (T := pairsTg) h1 (fun op x y z h => ?_) (fun _ => rfl) rfl (pairs_g _) hN hm d k
      unfold pairsTg at h
      rcases List.mem_cons.1 h with h | h
      · cases h
        refine ⟨.i64, q, .i64, 0, rfl, rfl, rfl, rfl, rfl, ?_⟩
        simp [intBin, vT]; omega
      · cases List.mem_singleton.1 h
        refine ⟨.i64, q, .i64, 3, rfl, rfl, rfl, rfl, rfl, ?_⟩
        simp [intBin, vT]; omega
    · by_cases hu : 0 ≤ u ∧ u ≤ 7
      · have go : isTrue (pairsRun (.sym 0 16) maskT [.int .i64 q, .sym 0 0, .sym 1 0]) = true → Cl pg 3 #[.int .i64 q, .int .i64 u, .int .i64 draw] K w := fun h =>
          pairs_of (m := maskI u) (a := .int .i64 q) h1 (fun op x y z hx => entB_ok (List.all_eq_true.1 (mask_all hu) _ hx)) (fun σ => by
            rw [den_sym]
            show Value.int .i64 (maskI u) = pairE u q (maskI u) 16
            unfold pairE
            simp) rfl h hN hm d k
        rcases (show q = 0 ∨ q = 1 ∨ q = 2 ∨ q = 3 by omega) with h | h | h | h
        · subst h; exact go pairs_s0
        · subst h; exact go pairs_s1
        · subst h; exact go pairs_s2
        · subst h; exact go pairs_s3
      · have e : maskI u = 0 := by unfold maskI; rw [if_neg hu]
        have go : isTrue (pairsRun (.int .i64 0) [] [.int .i64 q, .sym 0 0, .sym 1 0]) = true → Cl pg 3 #[.int .i64 q, .int .i64 u, .int .i64 draw] K w := fun h =>
          pairs_of (m := 0) (a := .int .i64 q) h1 (fun _ _ _ _ hx => by cases hx) (fun _ => by rw [e]; rfl) rfl h hN hm d k
        rcases (show q = 0 ∨ q = 1 ∨ q = 2 ∨ q = 3 by omega) with h | h | h | h
        · subst h; exact go pairs_z0
        · subst h; exact go pairs_z1
        · subst h; exact go pairs_z2
        · subst h; exact go pairs_z3
end Go.Proofs.YtfehhjjfmbjlfaaGreatDoor
