/- Values that are read in an open order, and calls. -/
import Derived.Test.YtlcbfahjejgjlaaSc
namespace Go.Jac
open Go
section
variable {P : Program} {w0 w : World} {L : List HP} {I : WP} {B : Value → WP} {b o n : Nat} {t : TypeId} {cs : List Value} {v : Value}
/-- A segment: what holds of memory while some of those that read are still ahead. -/
theorem qt {F : WP → WP} (d : D w0 L w) (h : F (D w0 L) w) : QtC F w := ⟨_, d, h⟩
theorem ch {K : WP} (h : I w) (k : K w) : CH I K w := ⟨h, k⟩
theorem drw {A : WP} (d : D w0 L w) (h : ∀ w', D w0 L w' → A w') : Drw A w := h _ d.drawn
theorem qe {A : (Value → WP) → WP} (v : Value) (h : ∀ w', I w' → A (fun v' w'' => v' = v ∧ w'' = w') w') (k : B v w) : QE I A B w := ⟨v, h, k⟩
theorem qe_nil {p : Addr} (k : B (.pointer (some p)) w) : QE I (fun KK => NilC (.pointer (some p)) fun v => KK v) B w := qe _ (fun _ _ => ⟨rfl, rfl⟩) k
theorem qe_fa (k : B (.pointer (some ⟨b, o + n, none⟩)) w) : QE I (fun KK => FA (.pointer (some ⟨b, o, none⟩)) n fun v => KK v) B w := qe _ (fun _ _ => by rw [FA_p]; exact ⟨rfl, rfl⟩) k
theorem qe_ld1 (g : ∀ w', I w' → hw w' b = some (.cells cs.toArray t (0, 0))) (hv : cs[o]? = some v) (k : B v w) : QE I (fun KK => Ld1 (.pointer (some ⟨b, o, none⟩)) fun v => KK v) B w := qe _ (fun w' h => ld1 (g w' h) hv ⟨rfl, rfl⟩) k
theorem qe_ldN (g : ∀ w', I w' → hw w' b = some (.cells cs.toArray t (0, 0))) (vs : List Value) (hl : vs.length = n) (hv : ∀ j x, vs[j]? = some x → cs[o + j]? = some x) (k : B (.agg vs.toArray) w) : QE I (fun KK => LdN n (.pointer (some ⟨b, o, none⟩)) fun v => KK v) B w := qe _ (fun w' h => ldN (g w' h) vs hl hv ⟨rfl, rfl⟩) k
theorem qe_bld {zero : Array Value} {places : List (Nat × Nat)} {parts : Array (Nat × Value)} (c : Array Value) (h : Instr.fill (fun i => places[i]?) zero parts.toList = some c) (k : B (.agg c) w) : QE I (fun KK => Ex P (bldS zero places parts) fun v => KK v) B w := qe _ (fun _ _ => bld_ok h ⟨rfl, rfl⟩) k
theorem qe_ext {vs : Array Value} {i : Nat} (h : vs[i]? = some v) (k : B v w) : QE I (fun KK => Ext (.tuple vs) i fun v => KK v) B w := qe v (fun _ _ => by rw [Ext_t, h]; exact ⟨rfl, rfl⟩) k
theorem qe_ia {es len cap : Nat} {k : IntKind} {i : Int} (h0 : 0 ≤ i) (h1 : i < (len : Int)) (kk : B (.pointer (some ⟨b, o + i.toNat * es, none⟩)) w) : QE I (fun KK => IA es (.slice (some ⟨b, o, none⟩) len cap) (.int k i) fun v => KK v) B w := qe _ (fun _ _ => ia_ok h0 h1 ⟨rfl, rfl⟩) kk
theorem qe_len {p : Option Addr} {n c : Nat} (k : B (.int .i64 n) w) : QE I (fun KK => LenS (.slice p n c) fun v => KK v) B w := qe _ (fun _ _ => ⟨rfl, rfl⟩) k
/-- Whatever needs no memory. -/
theorem qe_op {A : (Value → WP) → WP} (h : ∀ KK w, A KK w = KK v w) (k : B v w) : QE I A B w := qe v (fun _ _ => by rw [h]; exact ⟨rfl, rfl⟩) k
end
theorem St_w {n : Nat} {v : Value} {K K' : Value → WP} {p : Value} {w : World} (h : St n p v K w) (k : ∀ w', K undef w' → K' undef w') : St n p v K' w := by
  obtain ⟨p, a, b, c, d⟩ := h
  exact ⟨p, a, b, c, k _ d⟩
end Go.Jac
