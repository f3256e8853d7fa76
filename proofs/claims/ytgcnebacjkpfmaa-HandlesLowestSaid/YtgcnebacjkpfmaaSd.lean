/- Values that are read in an open order, and calls. -/
import Derived.Test.YtgcnebacjkpfmaaSc
namespace Go.Jac
open Go
section
variable {P : Program} {w w1 : World} {A : WP} {B : Value → Prop} {b o n : Nat} {t : TypeId} {cs : List Value} {v : Value}
theorem qt {F : WP → Prop} (h : F (fun w' => w' = w)) : QtC F w := ⟨fun w' => w' = w, rfl, h⟩
theorem qend (h : A w1) : QEnd (fun w => w = w1) A := fun _ e => e ▸ h
theorem qe {A : (Value → WP) → WP} (v : Value) (h : A (fun v' w' => v' = v ∧ w' = w1) w1) (k : B v) : QE (fun w => w = w1) A B := ⟨v, fun w e => by subst e; exact h, k⟩
theorem qe_nil {p : Addr} (k : B (.pointer (some p))) : QE (fun w => w = w1) (fun KK => NilC (.pointer (some p)) fun v => KK v) B := qe _ ⟨rfl, rfl⟩ k
theorem qe_fa (k : B (.pointer (some ⟨b, o + n, none⟩))) : QE (fun w => w = w1) (fun KK => FA (.pointer (some ⟨b, o, none⟩)) n fun v => KK v) B := qe _ (by rw [FA_p]; exact ⟨rfl, rfl⟩) k
theorem qe_ld1 (g : hw w1 b = some (.cells cs.toArray t (0, 0))) (hv : cs[o]? = some v) (k : B v) : QE (fun w => w = w1) (fun KK => Ld1 (.pointer (some ⟨b, o, none⟩)) fun v => KK v) B := qe _ (ld1 g hv ⟨rfl, rfl⟩) k
theorem qe_ldN (g : hw w1 b = some (.cells cs.toArray t (0, 0))) (vs : List Value) (hl : vs.length = n) (hv : ∀ j x, vs[j]? = some x → cs[o + j]? = some x) (k : B (.agg vs.toArray)) : QE (fun w => w = w1) (fun KK => LdN n (.pointer (some ⟨b, o, none⟩)) fun v => KK v) B := qe _ (ldN g vs hl hv ⟨rfl, rfl⟩) k
theorem qe_bld {zero : Array Value} {places : List (Nat × Nat)} {parts : Array (Nat × Value)} (c : Array Value) (h : Instr.fill (fun i => places[i]?) zero parts.toList = some c) (k : B (.agg c)) : QE (fun w => w = w1) (fun KK => Ex P (bldS zero places parts) fun v => KK v) B := qe _ (bld_ok h ⟨rfl, rfl⟩) k
theorem qe_ext {vs : Array Value} {i : Nat} (h : vs[i]? = some v) (k : B v) : QE (fun w => w = w1) (fun KK => Ext (.tuple vs) i fun v => KK v) B := qe v (by rw [Ext_t, h]; exact ⟨rfl, rfl⟩) k
theorem qe_call {f : Value} {args : Array Value} (v : Value) (h : FnV P f args (fun v' w' => v' = v ∧ w' = w1) w1) (k : B v) : QE (fun w => w = w1) (fun KK => FnV P f args fun v => KK v) B := qe v h k
theorem qe_ia {es len cap : Nat} {k : IntKind} {i : Int} (h0 : 0 ≤ i) (h1 : i < (len : Int)) (kk : B (.pointer (some ⟨b, o + i.toNat * es, none⟩))) : QE (fun w => w = w1) (fun KK => IA es (.slice (some ⟨b, o, none⟩) len cap) (.int k i) fun v => KK v) B := qe _ (ia_ok h0 h1 ⟨rfl, rfl⟩) kk
end
theorem St_w {n : Nat} {v : Value} {K K' : Value → WP} {p : Value} {w : World} (h : St n p v K w) (k : ∀ w', K undef w' → K' undef w') : St n p v K' w := by
  obtain ⟨p, a, b, c, d⟩ := h
  exact ⟨p, a, b, c, k _ d⟩
end Go.Jac
