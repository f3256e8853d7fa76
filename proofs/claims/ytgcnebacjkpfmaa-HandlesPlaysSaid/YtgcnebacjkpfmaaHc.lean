/- Handles: the fixed answer; the law of values. -/
import Derived.Test.YtgcnebacjkpfmaaHb
set_option maxRecDepth 100000
namespace Go.Proofs.Ytgcnebacjkpfmaa
open Go Go.Jac
section
variable {w0 w : World} {L : List HP} {K : Value → WP}
theorem awake_ok (d : D w0 L w) (k : ∀ w', D w0 L w' → K (.bool true) w') : Cl pg 12 #[] K w := by
  refine V.jacinthlaw06_awake_ok ?_
  unfold V.jacinthlaw06_awake
  refine call_of (fun _ _ => rfl) (New_ok (by omega) d fun b w1 d1 => ?_)
  simp +decide only [Cnd_b, EqP_pn, false_implies, true_and, forall_const]
  refine bld_ok (cs := #[.int .i64 7, .int .i64 7, .int .i64 5]) rfl ?_
  refine call_of (fun _ _ => rfl) (Add_ok (S := []) (cap := 1) (o := 7) (kd := 7) (r := 5) rfl ⟨by decide, by decide⟩ (by decide) d1 fun w2 d2 => ?_)
  simp only [Ext_20, Ext_21]
  refine bld_ok (cs := #[.int .i64 0, .int .i64 0, .int .i64 0]) rfl ?_
  have hc : cnt (adS [] ⟨hval ((fre [] : Nat) : Int) 0, 7, 7, 5⟩) = 1 := by decide
  refine call_of (fun _ _ => rfl) (Add_full (o := 0) (kd := 0) (r := 0) rfl hc d2 fun w3 d3 => ?_)
  have hv : hval ((fre [] : Nat) : Int) 0 = 3 := by decide
  simp only [Ext_20, Ext_21, Grd_t, BinI_eql, decide_eq_true_eq, decide_eq_false_iff_not, false_implies, and_true, forall_const, not_true_eq_false, hv]
  refine call_of (fun _ _ => rfl) (Value_ok ?_)
  have hv2 : hval 2 5 = 5242891 := by decide
  simp only [BinI_eql, hv2]
  exact k _ d3.tail
end
theorem values_ok {w0 w : World} {K : Value → WP} {L : List HP} {a dr v : Int} (_ha : I64 a) (hd : I64 dr) (hv : I64 v) (d : D w0 L w) (k : ∀ w', D w0 L w' → K (.bool true) w') : Cl pg 3 #[.int .i64 a, .int .i64 dr, .int .i64 v] K w := by
  refine V.jacinthlaw06_HandlesValues_ok ?_
  unfold V.jacinthlaw06_HandlesValues
  refine call_of (fun _ _ => rfl) (Value_ok ?_)
  intro K' hK
  have fin : K' [.bool false] w := by
    refine hK _ _ ?_
    intro _
    simp only [UN]
    refine call_of (fun _ _ => rfl) (Place_ok hv ?_)
    unfold I64 at hv
    have aw : Cl pg 12 #[] K w := awake_ok d k
    simp +decide only [Cnd_b, Grd_t, Grd_f, BinI_sub, BinI_quo, BinI_rem, BinI_eql, BinI_neq, BinI_lss, BinI_geq, decide_eq_true_eq, decide_eq_false_iff_not, Bool.not_true, Bool.not_false, Bool.not_eq_eq_eq_not]
    have aw' : FnV pg (.func (.func 12) #[] #[]) #[] (fun v => K v) w := call_of (fun _ _ => rfl) aw
    have no : ¬ (0 ≤ v ∧ v < 68719476736 ∧ v % 4 = 3 ∧ v / 262144 % 4 = 0) → (hplc v = -1 → FnV pg (.func (.func 12) #[] #[]) #[] (fun v => K v) w) ∧ (¬ hplc v = -1 → K (.bool false) w) :=
      fun h => ⟨fun _ => aw', fun h2 => absurd (by unfold hplc; rw [if_neg h]) h2⟩
    refine ⟨fun h => ?_, fun h => no (by omega)⟩
    have m1 : v.tmod 1048576 = v % 1048576 := Int.tmod_eq_emod_of_nonneg (by omega)
    have m2 : v.tmod 4 = v % 4 := Int.tmod_eq_emod_of_nonneg (by omega)
    have m3 : v.tdiv 1048576 = v / 1048576 := Int.tdiv_eq_ediv_of_nonneg (by omega)
    rw [m1, m2, m3]
    refine ⟨fun h1 => ⟨fun h2 => ⟨fun h3 => no (by omega), fun h3 => ?_⟩, fun h2 => no (by omega)⟩, fun h1 => no (by omega)⟩
    rw [w64 (n := v % 1048576 - 3) (by omega) (by omega), Int.tdiv_eq_ediv_of_nonneg (by omega), w64 (n := (v % 1048576 - 3) / 4) (by omega) (by omega), w64 (by omega) (by omega)]
    have hp : hplc v = v / 4 % 65536 := by unfold hplc; rw [if_pos (by omega)]
    refine ⟨fun h4 => ?_, fun h4 => absurd (by omega) h4⟩
    refine call_of (fun _ _ => rfl) (Value_ok ?_)
    have hh : hval (hplc v) (v / 1048576) = v := by
      unfold hval; rw [if_pos (by omega)]; omega
    simp +decide only [Grd_t, BinI_eql, false_implies, and_true, forall_const, hh]
    exact aw'
  simp +decide only [Cnd_b, Grd_f, BinI_neq, BinI_lss, BinI_geq, decide_eq_true_eq, decide_eq_false_iff_not, Bool.not_true, Bool.not_false, Bool.not_eq_eq_eq_not]
  have no : ¬ (0 ≤ a ∧ a < 65536) → hval a dr = 0 := fun h => by unfold hval; rw [if_neg h]
  refine ⟨fun h => ⟨fun h2 => ?_, fun h2 => ?_⟩, fun h => ?_⟩
  · exact ⟨fun h3 => absurd (no (by omega)) h3, fun _ => fin⟩
  · have hva : hval a dr = dr % 65536 * 1048576 + a * 4 + 3 := by unfold hval; rw [if_pos (by omega)]
    refine call_of (fun _ _ => rfl) (Mod_ok hd ?_)
    simp +decide only [Grd_f, BinI_add, BinI_mul, BinI_neq, decide_eq_true_eq, decide_eq_false_iff_not, Bool.not_true, Bool.not_false, Bool.not_eq_eq_eq_not]
    rw [w64 (n := dr % 65536 * 1048576) (by omega) (by omega), w64 (n := a * 4) (by omega) (by omega), w64 (n := dr % 65536 * 1048576 + a * 4) (by omega) (by omega), w64 (by omega) (by omega)]
    refine ⟨fun h3 => ?_, fun h3 => absurd hva h3⟩
    refine call_of (fun _ _ => rfl) (Place_ok (by unfold I64; omega) ?_)
    simp +decide only [Cnd_b, BinI_neq, decide_eq_true_eq, decide_eq_false_iff_not, Bool.not_true, Bool.not_false, Bool.not_eq_eq_eq_not]
    exact ⟨fun h4 => absurd (hplc_hval a dr (by omega) (by omega)) h4, fun _ => fin⟩
  · exact ⟨fun h3 => absurd (no (by omega)) h3, fun _ => fin⟩
end Go.Proofs.Ytgcnebacjkpfmaa
