/- MachineNothing: from what is handed in. -/
import Derived.Test.YtcdkbkgpgemfgaaGreatDoorLMd
import Derived.Test.YtcdkbkgpgemfgaaGreatDoorR
set_option maxRecDepth 100000
namespace Go.Proofs.YtcdkbkgpgemfgaaGreatDoor
open Go Go.Jac
section
variable {w0 w : World} {L : List HP} {K : Value → WP} {v0 : Value}
theorem slU {v : Value} (y : Rd pg w0 31 [v]) : ∃ q n c, v = .slice q n c := by
  obtain ⟨n7, o7⟩ := osl_of (es := 1) Tryz.underlying31 (by kernel_rfl) y
  obtain ⟨l7, -, -, h7, -⟩ := o7.list (f := fun n : Int => [.int .u8 n]) (Q := fun _ => True) fun vs r => by
    obtain ⟨n, e, _⟩ := Rd.int Tryz.underlying5 r
    exact ⟨n, e, trivial⟩
  obtain ⟨q, c, e⟩ := h7.shape
  exact ⟨q, _, c, e⟩
theorem slI {v : Value} (y : Rd pg w0 30 [v]) : ∃ q n c, v = .slice q n c := by
  obtain ⟨n7, o7⟩ := osl_of (es := 1) Tryz.underlying30 (by kernel_rfl) y
  obtain ⟨l7, -, -, h7, -⟩ := o7.list (f := fun n : Int => [.int .i64 n]) (Q := fun _ => True) fun vs r => by
    obtain ⟨n, e, _⟩ := Rd.int Tryz.underlying3 r
    exact ⟨n, e, trivial⟩
  obtain ⟨q, c, e⟩ := h7.shape
  exact ⟨q, _, c, e⟩
theorem mnothing_of (y0 : Rd pg w0 64 [v0]) (hN : Nmd w0) (hm : Old w0 ∈ L) (d : D w0 L w) (k : ∀ w', D w0 L w' → K (.bool true) w') : Cl pg 6 #[v0] K w := by
  have rd : ∀ vs, Rd pg w0 38 vs → ∃ s : MS, vs = mf s ∧ I64 s.by_ := fun vs r => by
    obtain ⟨x0, x1, x2, x3, x4, x5, x6, x7, x8, x9, x10, x11, e, a0, a1, a2, a3, a4, a5, a6, a7, a8, a9, r10, r11⟩ := rd38 r
    obtain ⟨q7, n7, c7, rfl⟩ := slU r10
    obtain ⟨q8, n8, c8, rfl⟩ := slI r11
    exact ⟨⟨x0, x2, fun j => [x1, x3, x4, x5, x6, x7, x8, x9].getD j 0, q7, n7, c7, q8, n8, c8⟩, e, I64.of_wf a2⟩
  obtain ⟨n0, o0⟩ := osl_of (es := 12) Tryz.underlying64 (by kernel_rfl) y0
  obtain ⟨l, -, hI, h0, -⟩ := o0.list (f := mf) (Q := fun s => I64 s.by_) rd
  exact mnothing_ok h0 hI hN hm d k
end
end Go.Proofs.YtcdkbkgpgemfgaaGreatDoor
