/- KernelNothing. -/
import Derived.Test.YtcdkbkgpgemfgaaGreatDoorLNoC
import Derived.Test.YtcdkbkgpgemfgaaGreatDoorLNoD
set_option maxRecDepth 100000
namespace Go.Proofs.YtcdkbkgpgemfgaaGreatDoor
open Go Go.Jac
theorem no_D {thr x0 : Int} {T : XT} (hT : ∀ op x y z, (op, x, y, z) ∈ T → Ent (drW (fun _ => 0) (noE thr x0) [] T).at_ op x y z) : DrOk (drW (fun _ => 0) (noE thr x0) [] T) := by
  refine drW_ok (fun _ => ⟨by decide, by decide⟩) (fun c => ?_) (fun _ _ _ _ h => by cases h) hT
  unfold noE; split <;> rfl
theorem num_ent {thr x0 : Int} {g l e : Bool} {E : XX} {T : XT} (hg : ∀ n ∈ [1, 8, 14, 20, 28, 34, 39], decide (x0 ≥ (n : Int)) = g) (hl : ∀ n ∈ [5, 10, 19, 27, 33, 38, 48], decide (x0 ≤ (n : Int)) = l) (he : ∀ n ∈ [6, 7, 13, 17, 11, 12, 49], decide (x0 = (n : Int)) = e) :
    ∀ op x y z, (op, x, y, z) ∈ numT g l e → Ent (drW (fun _ => 0) (noE thr x0) E T).at_ op x y z := by
  intro op x y z h
  unfold numT at h
  rcases List.mem_append.1 h with h | h
  · rcases List.mem_append.1 h with h | h
    · obtain ⟨n, hn, e⟩ := List.mem_map.1 h
      cases e
      refine ⟨.i64, x0, .i64, n, rfl, rfl, rfl, rfl, rfl, ?_⟩
      rw [← hg n hn]; simp [intBin, vT]
    · obtain ⟨n, hn, e⟩ := List.mem_map.1 h
      cases e
      refine ⟨.i64, x0, .i64, n, rfl, rfl, rfl, rfl, rfl, ?_⟩
      rw [← hl n hn]; simp [intBin, vT]
  · obtain ⟨n, hn, e⟩ := List.mem_map.1 h
    cases e
    refine ⟨.i64, x0, .i64, n, rfl, rfl, rfl, rfl, rfl, ?_⟩
    rw [← he n hn]; simp [intBin, vT]; rfl
section
variable {w0 w : World} {L : List HP} {K : Value → WP} {v7 v8 : Value} {l7 l8 : List Int}
theorem nothing_ok {thr x0 x1 x2 x3 x4 x5 x6 : Int} (h7 : OldL w0 1 bf v7 l7) (h8 : OldL w0 1 nfI v8 l8) (hN : Nmd w0) (hm : Old w0 ∈ L) (d : D w0 L w) (k : ∀ w', D w0 L w' → K (.bool true) w') :
    Cl pg 5 #[.int .i64 thr, .agg #[.int .i64 x0, .int .i64 x1, .int .i64 x2, .int .i64 x3, .int .i64 x4, .int .i64 x5, .int .i64 x6, v7, v8]] K w := by
  by_cases h3 : thr = 3
  · subst h3
    by_cases hlo : x0 < 1
    · exact no_core (T := numT false true false) (no_D (num_ent (fun n hn => by simp at hn ⊢; omega) (fun n hn => by simp at hn ⊢; omega) fun n hn => by simp at hn ⊢; omega)) (fun _ _ _ _ => no_lo _ _ _ _ _ _ _ _ _ _ _ _) (fun _ _ => rfl) (fun _ => rfl) (.inr (.inl ⟨rfl, .inl hlo, rfl⟩)) h7 h8 hN hm d k
    · by_cases hhi : 49 < x0
      · exact no_core (T := numT true false false) (no_D (num_ent (fun n hn => by simp at hn ⊢; omega) (fun n hn => by simp at hn ⊢; omega) fun n hn => by simp at hn ⊢; omega)) (fun _ _ _ _ => no_hi _ _ _ _ _ _ _ _ _ _ _ _) (fun _ _ => rfl) (fun _ => rfl) (.inr (.inl ⟨rfl, .inr hhi, rfl⟩)) h7 h8 hN hm d k
      · exact no_core (T := []) (st := -20) (thrX := .int .i64 1) (nX := .lit (.int .i64 x0)) (no_D fun _ _ _ _ h => by cases h) (fun _ _ _ _ => no_1 _ _ _ _ _ _ _ _ _ _ _ _ _) (fun h => absurd ⟨by omega, by omega⟩ (h rfl)) (fun _ => rfl) (.inr (.inr ⟨rfl, by omega, by omega⟩)) h7 h8 hN hm d k
  · have nD : ∀ {T : XT}, (∀ op x y z, (op, x, y, z) ∈ T → Ent (drW (fun _ => 0) (noE thr x0) [] T).at_ op x y z) → DrOk (drW (fun _ => 0) (noE thr x0) [] T) := no_D
    rcases Int.lt_or_le thr 1 with h1 | h1
    · refine no_core (T := noTl) (thrX := .sym 0 0) (no_D fun op x y z h => ?_) (fun _ _ _ _ => no_l _ _ _ _ _ _ _ _ _ _ _ _ _) (fun _ _ => rfl) (fun _ => rfl) (.inl ⟨h3, rfl⟩) h7 h8 hN hm d k
      unfold noTl at h
      cases List.mem_singleton.1 h
      refine ⟨.i64, thr, .i64, 1, rfl, rfl, rfl, rfl, rfl, ?_⟩
      simp [intBin, vT]; omega
    · rcases Int.lt_or_le 3 thr with h4 | h4
      · refine no_core (T := noTg) (thrX := .sym 0 0) (no_D fun op x y z h => ?_) (fun _ _ _ _ => no_g _ _ _ _ _ _ _ _ _ _ _ _ _) (fun _ _ => rfl) (fun _ => rfl) (.inl ⟨h3, rfl⟩) h7 h8 hN hm d k
        unfold noTg at h
        rcases List.mem_cons.1 h with h | h
        · cases h
          refine ⟨.i64, thr, .i64, 1, rfl, rfl, rfl, rfl, rfl, ?_⟩
          simp [intBin, vT]; omega
        · cases List.mem_singleton.1 h
          refine ⟨.i64, thr, .i64, 3, rfl, rfl, rfl, rfl, rfl, ?_⟩
          simp [intBin, vT]; omega
      · rcases (show thr = 1 ∨ thr = 2 by omega) with e | e
        · subst e
          exact no_core (T := []) (thrX := .int .i64 1) (no_D fun _ _ _ _ h => by cases h) (fun _ _ _ _ => no_1 _ _ _ _ _ _ _ _ _ _ _ _ _) (fun _ _ => rfl) (fun _ => rfl) (.inl ⟨h3, rfl⟩) h7 h8 hN hm d k
        · subst e
          exact no_core (T := []) (thrX := .int .i64 2) (no_D fun _ _ _ _ h => by cases h) (fun _ _ _ _ => no_2 _ _ _ _ _ _ _ _ _ _ _ _ _) (fun _ _ => rfl) (fun _ => rfl) (.inl ⟨h3, rfl⟩) h7 h8 hN hm d k
theorem nothing_of {thr x0 x1 x2 x3 x4 x5 x6 : Int} (y7 : Rd pg w0 31 [v7]) (y8 : Rd pg w0 30 [v8]) (hN : Nmd w0) (hm : Old w0 ∈ L) (d : D w0 L w) (k : ∀ w', D w0 L w' → K (.bool true) w') :
    Cl pg 5 #[.int .i64 thr, .agg #[.int .i64 x0, .int .i64 x1, .int .i64 x2, .int .i64 x3, .int .i64 x4, .int .i64 x5, .int .i64 x6, v7, v8]] K w := by
  obtain ⟨n7, o7⟩ := osl_of (es := 1) Tryz.underlying31 (by kernel_rfl) y7
  obtain ⟨n8, o8⟩ := osl_of (es := 1) Tryz.underlying30 (by kernel_rfl) y8
  obtain ⟨l7, -, -, h7, -⟩ := o7.list (f := bf) (Q := fun _ => True) fun vs r => by
    obtain ⟨n, e, _⟩ := Rd.int Tryz.underlying5 r
    exact ⟨n, e, trivial⟩
  obtain ⟨l8, -, -, h8, -⟩ := o8.list (f := nfI) (Q := fun _ => True) fun vs r => by
    obtain ⟨n, e, _⟩ := Rd.int Tryz.underlying3 r
    exact ⟨n, e, trivial⟩
  exact nothing_ok h7 h8 hN hm d k
end
end Go.Proofs.YtcdkbkgpgemfgaaGreatDoor
