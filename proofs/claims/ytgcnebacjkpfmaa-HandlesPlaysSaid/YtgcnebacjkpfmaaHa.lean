/- Handles: what the functions of package handles come to. -/
import Derived.Test.YtgcnebacjkpfmaaV
import Derived.Test.YtgcnebacjkpfmaaSc
set_option maxRecDepth 100000
namespace Go.Proofs.Ytgcnebacjkpfmaa
open Go Go.Jac

/-- A handle's value, of a place and a draw. -/
def hval (a d : Int) : Int := if 0 ≤ a ∧ a < 65536 then (d % 65536) * 1048576 + a * 4 + 3 else 0
theorem Value_ok {a d : Int} {K : Value → WP} {w : World} (hk : K (.int .i64 (hval a d)) w) : Cl pg 9 #[.int .i64 a, .int .i64 d] K w := by
  refine V.handles_Value_ok ?_
  unfold V.handles_Value
  simp +decide only [Cnd_b, Grd_f, BinI_and, BinI_or, BinI_lss, BinI_geq, BinI_shl, Int.reduceToNat, Int.reducePow, decide_eq_true_eq, decide_eq_false_iff_not]
  refine ⟨fun h => ⟨fun h2 => ?_, fun h2 => ?_⟩, fun h => ?_⟩
  · rw [hval, if_neg (by omega)] at hk; exact hk
  rotate_left
  · rw [hval, if_neg (by omega)] at hk; exact hk
  · rw [hval, if_pos (by omega)] at hk
    have e1 : iand .i64 d 65535 = d % 65536 := iand_mask d 16 (by omega) 65535 (by decide)
    rw [e1, w64 (by omega) (by omega), w64 (by omega) (by omega)]
    rw [ior_add (d % 65536 * 1048576) (a * 4) 20 (by omega) (by omega) (by omega) (by omega) (by omega)]
    rw [ior_add (d % 65536 * 1048576 + a * 4) 3 2 (by omega) (by omega) (by omega) (by omega) (by omega)]
    exact hk
/-- The place that a value tells. -/
def hplc (v : Int) : Int := if 0 ≤ v ∧ v < 68719476736 ∧ v % 4 = 3 ∧ v / 262144 % 4 = 0 then v / 4 % 65536 else -1
theorem Place_ok {v : Int} (_hv : I64 v) {K : Value → WP} {w : World} (hk : K (.int .i64 (hplc v)) w) : Cl pg 11 #[.int .i64 v] K w := by
  refine V.handles_Place_ok ?_
  unfold V.handles_Place
  have e1 : iand .i64 v 3 = v % 4 := iand_mask v 2 (by omega) 3 (by decide)
  have f1 : v.fdiv 262144 = v / 262144 := Int.fdiv_eq_ediv_of_nonneg _ (by decide)
  have f2 : v.fdiv 4 = v / 4 := Int.fdiv_eq_ediv_of_nonneg _ (by decide)
  have e2 : iand .i64 (v / 262144) 3 = v / 262144 % 4 := iand_mask _ 2 (by omega) 3 (by decide)
  have e3 : iand .i64 (v / 4) 65535 = v / 4 % 65536 := iand_mask _ 16 (by omega) 65535 (by decide)
  simp +decide only [Cnd_b, Grd_f, BinI_and, BinI_neq, BinI_lss, BinI_geq, BinI_shr, Int.reduceToNat, Int.reducePow, decide_eq_true_eq, decide_eq_false_iff_not, Bool.not_true, Bool.not_false, Bool.not_eq_eq_eq_not, e1, f1, f2, e2, e3]
  unfold hplc at hk
  refine ⟨fun h => ⟨fun h2 => ⟨fun h3 => ⟨fun h4 => ?_, fun h4 => ?_⟩, fun h3 => ?_⟩, fun h2 => ?_⟩, fun h => ?_⟩ <;> first | (rw [if_neg (by omega)] at hk; exact hk) | (rw [if_pos (by omega)] at hk; exact hk)
theorem hplc_hval (a d : Int) (h0 : 0 ≤ a) (h1 : a < 65536) : hplc (hval a d) = a := by
  unfold hval; rw [if_pos ⟨h0, h1⟩]; unfold hplc; rw [if_pos (by omega)]; omega
theorem Mod_ok {n : Int} (hn : I64 n) {K : Value → WP} {w : World} (hk : K (.int .i64 (n % 65536)) w) : Cl pg 10 #[.int .i64 n] K w := by
  refine V.jacinthref06_Mod_ok ?_
  unfold V.jacinthref06_Mod
  simp only [Cnd_b, BinI_add, BinI_rem, BinI_lss, Int.reduceBEq, decide_eq_true_eq, decide_eq_false_iff_not]
  unfold I64 at hn
  by_cases h0 : 0 ≤ n
  · rw [Int.tmod_eq_emod_of_nonneg h0]
    exact ⟨fun h => by omega, fun _ => hk⟩
  · have e : n.tmod 65536 = -((-n) % 65536) := by
      have := Int.neg_tmod (-n) 65536
      rw [Int.neg_neg, Int.tmod_eq_emod_of_nonneg (a := -n) (by omega)] at this
      exact this
    rw [e]
    refine ⟨fun h => ?_, fun h => ?_⟩
    · rw [w64 (by omega) (by omega)]
      have : -(-n % 65536) + 65536 = n % 65536 := by omega
      rw [this]; exact hk
    · have : -(-n % 65536) = n % 65536 := by omega
      rw [this]; exact hk
end Go.Proofs.Ytgcnebacjkpfmaa
