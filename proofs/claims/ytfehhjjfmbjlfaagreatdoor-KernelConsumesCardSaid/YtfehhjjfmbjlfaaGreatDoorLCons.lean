/- KernelConsumes. -/
import Derived.Test.YtfehhjjfmbjlfaaGreatDoorLConsB
set_option maxRecDepth 1000000
namespace Go.Proofs.YtfehhjjfmbjlfaaGreatDoor
open Go Go.Jac
def consE (n : Int) (b : Bool) (c : Nat) : Value := if c = 0 then .int .i64 n else .bool b
theorem consE1 (n : Int) (b : Bool) (c : Nat) : (consE n b c).oneCell' = true := by unfold consE; split <;> rfl
theorem cons_ok {n draw : Int} (h1 : I64 draw) (b : Bool) {w0 w : World} {L : List HP} {K : Value → WP} (hN : Nmd w0) (hm : Old w0 ∈ L) (d : D w0 L w) (k : ∀ w', D w0 L w' → K (.bool true) w') :
    Cl pg 4 #[.int .i64 n, .bool b, .int .i64 draw] K w := by
  have go : isTrue (consA n b) = true → Cl pg 4 #[.int .i64 n, .bool b, .int .i64 draw] K w := fun hr =>
     law_of (bs := fun _ => draw) (ex := fun _ => .bool true) (vs := [.int .i64 n, .bool b, .int .i64 draw]) (drW_ok (fun _ => h1) (fun _ => rfl) (fun _ _ _ _ h => by cases h) (fun _ _ _ _ h => by cases h)) hN hm (args := [.int .i64 n, .bool b, .sym 1 0]) rfl hr d k
  rcases Int.lt_or_le n 1 with hn | hn
  · refine law_of (bs := fun _ => draw) (ex := consE n b) (vs := [.int .i64 n, .bool b, .int .i64 draw]) (drW_ok (fun _ => h1) (consE1 n b) (fun _ _ _ _ h => by cases h) fun op x y z h => ?_) (args := [.sym 0 0, .sym 0 1, .sym 1 0]) hN hm rfl cons_runsl d k
    unfold consTl at h
    cases List.mem_singleton.1 h
    refine ⟨.i64, n, .i64, 1, rfl, rfl, rfl, rfl, rfl, ?_⟩
    simp [intBin, vT]; omega
  · rcases Int.lt_or_le 5 n with hm5 | hm5
    · refine law_of (bs := fun _ => draw) (ex := consE n b) (vs := [.int .i64 n, .bool b, .int .i64 draw]) (drW_ok (fun _ => h1) (consE1 n b) (fun _ _ _ _ h => by cases h) fun op x y z h => ?_) (args := [.sym 0 0, .sym 0 1, .sym 1 0]) hN hm rfl cons_runsg d k
      unfold consTg at h
      rcases List.mem_cons.1 h with h | h
      · cases h
        refine ⟨.i64, n, .i64, 1, rfl, rfl, rfl, rfl, rfl, ?_⟩
        simp [intBin, vT]; omega
      · cases List.mem_singleton.1 h
        refine ⟨.i64, n, .i64, 5, rfl, rfl, rfl, rfl, rfl, ?_⟩
        simp [intBin, vT]; omega
    · rcases (show n = 1 ∨ n = 2 ∨ n = 3 ∨ n = 4 ∨ n = 5 by omega) with h | h | h | h | h
      · subst h; cases b
        · exact go cons_r1f
        · exact go cons_r1t
      · subst h; cases b
        · exact go cons_r2f
        · exact go cons_r2t
      · subst h; cases b
        · exact go cons_r3f
        · exact go cons_r3t
      · subst h; cases b
        · exact go cons_r4f
        · exact go cons_r4t
      · subst h; cases b
        · exact go cons_r5f
        · exact go cons_r5t
end Go.Proofs.YtfehhjjfmbjlfaaGreatDoor
