/- AuditQueues. -/
import Derived.Test.YtfehhjjfmbjlfaaGreatDoorLQueuesC
set_option maxRecDepth 1000000
namespace Go.Proofs.YtfehhjjfmbjlfaaGreatDoor
open Go Go.Jac
def queuesE (n : Int) (b : Bool) (c : Nat) : Value := if c = 0 then .int .i64 n else .bool b
theorem queuesE1 (n : Int) (b : Bool) (c : Nat) : (queuesE n b c).oneCell' = true := by unfold queuesE; split <;> rfl
theorem queues_ok {n : Int} (b : Bool) {w0 w : World} {L : List HP} {K : Value → WP} (hN : Nmd w0) (hm : Old w0 ∈ L) (d : D w0 L w) (k : ∀ w', D w0 L w' → K (.bool true) w') :
    Cl pg 5 #[.int .i64 n, .bool b] K w := by
  have go : isTrue (queuesA n b) = true → Cl pg 5 #[.int .i64 n, .bool b] K w := fun hr =>
     law_of (bs := fun _ => 0) (ex := fun _ => .bool true) (vs := [.int .i64 n, .bool b]) (drW_ok (fun _ => ⟨by decide, by decide⟩) (fun _ => rfl) (fun _ _ _ _ h => by cases h) (fun _ _ _ _ h => by cases h)) hN hm (args := [.int .i64 n, .bool b]) rfl hr d k
  rcases Int.lt_or_le n 0 with hn | hn
  · refine law_of (bs := fun _ => 0) (ex := queuesE n b) (vs := [.int .i64 n, .bool b]) (drW_ok (fun _ => ⟨by decide, by decide⟩) (queuesE1 n b) (fun _ _ _ _ h => by cases h) fun op x y z h => ?_) (args := [.sym 0 0, .sym 0 1]) hN hm rfl queues_runsl d k
    unfold queuesTl at h
    cases List.mem_singleton.1 h
    refine ⟨.i64, n, .i64, 0, rfl, rfl, rfl, rfl, rfl, ?_⟩
    simp [intBin, vT]; omega
  · rcases Int.lt_or_le 3 n with hm5 | hm5
    · refine law_of (bs := fun _ => 0) (ex := queuesE n b) (vs := [.int .i64 n, .bool b]) (drW_ok (fun _ => ⟨by decide, by decide⟩) (queuesE1 n b) (fun _ _ _ _ h => by cases h) fun op x y z h => ?_) (args := [.sym 0 0, .sym 0 1]) hN hm rfl queues_runsg d k
      unfold queuesTg at h
      rcases List.mem_cons.1 h with h | h
      · cases h
        refine ⟨.i64, n, .i64, 0, rfl, rfl, rfl, rfl, rfl, ?_⟩
        simp [intBin, vT]; omega
      · cases List.mem_singleton.1 h
        refine ⟨.i64, n, .i64, 3, rfl, rfl, rfl, rfl, rfl, ?_⟩
        simp [intBin, vT]; omega
    · rcases (show n = 0 ∨ n = 1 ∨ n = 2 ∨ n = 3 by omega) with h | h | h | h
      · subst h; cases b
        · exact go queues_r0f
        · exact go queues_r0t
      · subst h; cases b
        · exact go queues_r1f
        · exact go queues_r1t
      · subst h; cases b
        · exact go queues_r2f
        · exact go queues_r2t
      · subst h; cases b
        · exact go queues_r3f
        · exact go queues_r3t
end Go.Proofs.YtfehhjjfmbjlfaaGreatDoor
