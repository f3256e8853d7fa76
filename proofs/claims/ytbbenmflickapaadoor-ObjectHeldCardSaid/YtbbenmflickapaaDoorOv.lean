/- Objects: whatever is called, all that is there is held: the law's argument. -/
import Derived.Test.YtbbenmflickapaaDoorOu
import Derived.Test.YtbbenmflickapaaDoorR
set_option maxRecDepth 100000
namespace Go.Proofs.YtbbenmflickapaaDoor
open Go Go.Jac
theorem held_law {w0 w : World} {K : Value → WP} {lv : Value} {n : Nat} (hN : Nmd w0) (h : OldSl pg w0 52 5 lv n) (d : D w0 [Old w0] w) (k : ∀ w', D w0 [Old w0] w' → K (.bool true) w') :
    Cl pg 6 #[lv] K w := by
  obtain ⟨S, hl, hQ, ho, hn⟩ : ∃ S : List OpE, S.length = n ∧ (∀ x ∈ S, OldL w0 1 nc x.sv x.l) ∧ OldL w0 5 oc lv S ∧ n ≤ maxLen := by
    refine h.list fun vs hv => ?_
    obtain ⟨x0, x1, x2, x3, x4, rfl, _, _, _, _, hr⟩ := rd52 hv
    obtain ⟨m, hm⟩ := osl_of (es := 1) Tryd.underlying50 (by kernel_rfl) hr
    obtain ⟨l, _, _, hll, _⟩ : ∃ l : List Int, l.length = m ∧ (∀ x ∈ l, True) ∧ OldL w0 1 nc x4 l ∧ m ≤ maxLen := by
      refine hm.list fun vs hv => ?_
      obtain ⟨x, rfl, _⟩ := Rd.int Tryd.underlying3 hv
      exact ⟨x, rfl, trivial⟩
    exact ⟨⟨x0, x1, x2, x3, x4, l⟩, rfl, hll⟩
  exact held_ok' hN ho hQ d k
end Go.Proofs.YtbbenmflickapaaDoor
