/- Values that are read in an open order, and calls. -/
import Derived.Test.YtgcnebacjkpfmaaSc
namespace Go.Jac
open Go
section
variable {P : Program} {w w1 : World} {A : WP} {B : Value → Prop} {b o n : Nat} {t : TypeId} {cs : List Value} {v : Value}
def Same (w1 : World) : MI := fun _ w => w = w1
theorem qt {F : MI → Prop} (h : F (Same w)) : QtC F w := ⟨Same w, rfl, h⟩
theorem qend {l : List Nat} (h : A w1) : QEnd (Same w1) l A := fun _ _ _ e => e ▸ h
theorem qs {p : Nat} {B : Prop} (h : B) : QS (Same w1) p B := ⟨fun _ _ _ h => h, h⟩
theorem qe {A : (Value → WP) → WP} {p : Nat} (v : Value) (h : A (fun v' w' => v' = v ∧ w' = w1) w1) (k : B v) : QE (Same w1) p A B := ⟨v, fun M w _ e => by cases e; exact h, k⟩
theorem qe_nil {p' : Nat} {p : Addr} (k : B (.pointer (some p))) : QE (Same w1) p' (fun KK => NilC (.pointer (some p)) fun v => KK v) B := qe _ ⟨rfl, rfl⟩ k
theorem qe_fa {p' : Nat} (k : B (.pointer (some ⟨b, o + n, none⟩))) : QE (Same w1) p' (fun KK => FA (.pointer (some ⟨b, o, none⟩)) n fun v => KK v) B := qe _ (by rw [FA_p]; exact ⟨rfl, rfl⟩) k
theorem qe_ld1 {p' : Nat} (g : hw w1 b = some (.cells cs.toArray t (0, 0))) (hv : cs[o]? = some v) (k : B v) : QE (Same w1) p' (fun KK => Ld1 (.pointer (some ⟨b, o, none⟩)) fun v => KK v) B := qe _ (ld1 g hv ⟨rfl, rfl⟩) k
theorem qe_ldN {p' : Nat} (g : hw w1 b = some (.cells cs.toArray t (0, 0))) (vs : List Value) (hl : vs.length = n) (hv : ∀ j x, vs[j]? = some x → cs[o + j]? = some x) (k : B (.agg vs.toArray)) : QE (Same w1) p' (fun KK => LdN n (.pointer (some ⟨b, o, none⟩)) fun v => KK v) B := qe _ (ldN g vs hl hv ⟨rfl, rfl⟩) k
theorem qe_bld {p' : Nat} {zero : Array Value} {places : List (Nat × Nat)} {parts : Array (Nat × Value)} (c : Array Value) (h : Instr.fill (fun i => places[i]?) zero parts.toList = some c) (k : B (.agg c)) : QE (Same w1) p' (fun KK => Ex P (bldS zero places parts) fun v => KK v) B := qe _ (bld_ok h ⟨rfl, rfl⟩) k
theorem qe_ext {p' : Nat} {vs : Array Value} {i : Nat} (h : vs[i]? = some v) (k : B v) : QE (Same w1) p' (fun KK => Ext (.tuple vs) i fun v => KK v) B := qe v (by rw [Ext_t, h]; exact ⟨rfl, rfl⟩) k
theorem qe_call {p' : Nat} {f : Value} {args : Array Value} (v : Value) (h : FnV P f args (fun v' w' => v' = v ∧ w' = w1) w1) (k : B v) : QE (Same w1) p' (fun KK => FnV P f args fun v => KK v) B := qe v h k
theorem qe_ia {p' : Nat} {es len cap : Nat} {k : IntKind} {i : Int} (h0 : 0 ≤ i) (h1 : i < (len : Int)) (kk : B (.pointer (some ⟨b, o + i.toNat * es, none⟩))) : QE (Same w1) p' (fun KK => IA es (.slice (some ⟨b, o, none⟩) len cap) (.int k i) fun v => KK v) B := qe _ (ia_ok h0 h1 ⟨rfl, rfl⟩) kk
end
theorem St_w {n : Nat} {v : Value} {K K' : Value → WP} {p : Value} {w : World} (h : St n p v K w) (k : ∀ w', K undef w' → K' undef w') : St n p v K' w := by
  obtain ⟨p, a, b, c, d⟩ := h
  exact ⟨p, a, b, c, k _ d⟩
end Go.Jac
