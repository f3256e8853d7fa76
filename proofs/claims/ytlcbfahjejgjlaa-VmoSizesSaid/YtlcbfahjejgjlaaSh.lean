/- Rows among a law's arguments. -/
import Derived.Test.YtlcbfahjejgjlaaSg
namespace Go.Jac
open Go
/-- A row that was there when the walk began: n elements of type e, of es cells each. -/
def OldSl (P : Program) (w0 : World) (e es : Nat) (v : Value) (n : Nat) : Prop :=
  n ≤ maxLen ∧ ((v = .slice none 0 0 ∧ n = 0) ∨ ∃ a c, v = .slice (some a) n c ∧ ∀ i, i < n → ∃ vs : List Value, vs.length = es ∧ (∀ j x, vs[j]? = some x → w0.cell? ((a.add (i * es)).add j) = some x) ∧ Rd P w0 e vs)
theorem osl_of {P : Program} {w0 : World} {t e es : Nat} {v : Value} (ht : P.underlying t = some (.slice e)) (he : P.cellsOf e = es) (h : Rd P w0 t [v]) : ∃ n, OldSl P w0 e es v n := by
  rcases h.slice ht with h | ⟨a, len, cap, h, hl, hc, hx⟩
  · cases h
    exact ⟨0, Nat.zero_le _, .inl ⟨rfl, rfl⟩⟩
  · cases h
    rw [he] at hx
    exact ⟨len, Nat.le_trans hl hc, .inr ⟨a, cap, rfl, hx⟩⟩
section
variable {P : Program} {w0 w : World} {L : List HP} {K : Value → WP} {e es n : Nat} {v : Value} {i : Int}
theorem OldSl.len (h : OldSl P w0 e es v n) (k : K (.int .i64 n) w) : LenS v K w := by
  rcases h.2 with ⟨rfl, rfl⟩ | ⟨a, c, rfl, _⟩
  · exact k
  · exact k
theorem OldSl.elem (h : OldSl P w0 e es v n) (h0 : 0 ≤ i) (h1 : i < n) : ∃ a, (∀ K : Value → WP, ∀ w, K (.pointer (some a)) w → IA es v (.int .i64 i) K w) ∧ ∃ vs : List Value, vs.length = es ∧ (∀ j x, vs[j]? = some x → w0.cell? (a.add j) = some x) ∧ Rd P w0 e vs := by
  rcases h.2 with ⟨_, rfl⟩ | ⟨a, c, rfl, hx⟩
  · omega
  · exact ⟨a.add (i.toNat * es), fun K w hk => old_ia h0 h1 hk, hx i.toNat (by omega)⟩
end
end Go.Jac
