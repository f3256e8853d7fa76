/- Handles: finding with rights; the laws of finding and of the lowest place. -/
import Derived.Test.YtgcnebacjkpfmaaHd
set_option maxRecDepth 100000
namespace Go.Proofs.Ytgcnebacjkpfmaa
open Go Go.Jac
/-- The answer of a search that has found x. -/
def findS (x : Slot) (kind need : Int) : Int := if kind ≠ 0 ∧ kind ≠ x.k then -12 else if iandNot .i64 need x.r = 0 then 0 else -30
section
variable {w0 w : World} {L : List HP} {K : Value → WP} {b : Nat} {cap : Int} {S : List Slot}
theorem Find_ok {v kind need : Int} (hv : I64 v) (d : D w0 (Tb b cap S :: L) w) (k1 : look S v = none → ∀ w', D w0 (Tb b cap S :: L) w' → K (.tuple #[ent 0 0 0, .int .i64 (-11)]) w')
    (k2 : ∀ p (hp : p < S.length), look S v = some p → ∀ w', D w0 (Tb b cap S :: L) w' → K (.tuple #[if findS S[p] kind need = 0 then S[p].ent else ent 0 0 0, .int .i64 (findS S[p] kind need)]) w') :
    Cl pg 17 #[.pointer (some ⟨b, 0, none⟩), .int .i64 v, .int .i64 kind, .int .i64 need] K w := by
  refine V.handles_Table_Find_ok ?_
  unfold V.handles_Table_Find
  refine d_new [.int .i64 0, .int .i64 0, .int .i64 0] d fun be w1 d1 => ?_
  refine call_of (fun _ _ => rfl) (Get_ok hv d1.swap (fun hn w2 d2 => ?_) fun p hp hl w2 d2 => ?_)
  · simp +decide only [Ext_20, Ext_21]
    refine d_new [.int .i64 0, .int .i64 0, .int .i64 0] d2 fun bf w3 d3 => ?_
    refine d_st d3 rfl (by simp []) (ones rfl) fun w4 d4 => ?_
    simp +decide only [FA_p, Cnd_b, Grd_t, BinI_neq, decide_eq_true_eq, decide_eq_false_iff_not, Bool.not_true, Bool.not_false, Bool.not_eq_eq_eq_not, false_implies, and_true, forall_const]
    refine bld_ok (cs := #[.int .i64 0, .int .i64 0, .int .i64 0]) rfl ?_
    refine d_st (D.pick 2 d4) rfl (by simp) (ones rfl) fun w5 d5 => ?_
    exact ldAll d5.get rfl (k1 hn _ d5.tail.tail)
  · simp +decide only [Ext_20, Ext_21]
    have k3 := k2 p hp hl
    refine d_new [.int .i64 0, .int .i64 0, .int .i64 0] d2 fun bf w3 d3 => ?_
    refine d_st d3 rfl (by simp []) (ones rfl) fun w4 d4 => ?_
    have d4 : D w0 (cel bf 35 [.int .i64 S[p].o, .int .i64 S[p].k, .int .i64 S[p].r] :: Tb b cap S :: cel be 35 [.int .i64 0, .int .i64 0, .int .i64 0] :: L) w4 := d4
    have rest : ¬ (kind ≠ 0 ∧ kind ≠ S[p].k) → (iandNot .i64 need S[p].r ≠ 0 → ∀ w', D w0 (Tb b cap S :: L) w' → K (.tuple #[ent 0 0 0, .int .i64 (-30)]) w') ∧ (iandNot .i64 need S[p].r = 0 → ∀ w', D w0 (Tb b cap S :: L) w' → K (.tuple #[S[p].ent, .int .i64 0]) w') := by
      intro h
      refine ⟨fun h2 w' d' => ?_, fun h2 w' d' => ?_⟩
      · have := k3 w' d'
        unfold findS at this
        rw [if_neg h, if_neg h2] at this
        exact this
      · have := k3 w' d'
        unfold findS at this
        rw [if_neg h, if_pos h2] at this
        exact this
    have bad : kind ≠ 0 ∧ kind ≠ S[p].k → ∀ w', D w0 (Tb b cap S :: L) w' → K (.tuple #[ent 0 0 0, .int .i64 (-12)]) w' := by
      intro h w' d'
      have := k3 w' d'
      unfold findS at this
      rw [if_pos h] at this
      exact this
    simp +decide only [FA_p, Cnd_b, Grd_t, BinI_neq, decide_eq_true_eq, decide_eq_false_iff_not, Bool.not_true, Bool.not_false, Bool.not_eq_eq_eq_not, false_implies, true_and, forall_const]
    refine ⟨fun h => ?_, fun h => ?_⟩
    · refine ld1 d4.get rfl ?_
      simp +decide only [FA_p, Cnd_b, BinI_neq, decide_eq_true_eq, decide_eq_false_iff_not, Bool.not_true, Bool.not_false, Bool.not_eq_eq_eq_not]
      refine ⟨fun h2 => ?_, fun h2 => ?_⟩
      · refine bld_ok (cs := #[.int .i64 0, .int .i64 0, .int .i64 0]) rfl ?_
        refine d_st (D.pick 2 d4) rfl (by simp) (ones rfl) fun w5 d5 => ?_
        exact ldAll d5.get rfl (bad ⟨h, h2⟩ _ d5.tail.tail)
      · refine ld1 d4.get rfl ?_
        refine call_of (fun _ _ => rfl) (Need_ok ?_)
        simp +decide only [Cnd_b, BinI_neq, decide_eq_true_eq, decide_eq_false_iff_not, Bool.not_true, Bool.not_false, Bool.not_eq_eq_eq_not]
        refine ⟨fun h3 => ?_, fun h3 => ?_⟩
        · have h4 : iandNot .i64 need S[p].r ≠ 0 := fun e => h3 (if_pos e)
          refine bld_ok (cs := #[.int .i64 0, .int .i64 0, .int .i64 0]) rfl ?_
          refine d_st (D.pick 2 d4) rfl (by simp) (ones rfl) fun w5 d5 => ?_
          rw [if_neg h4]
          exact ldAll d5.get rfl ((rest (by omega)).1 h4 _ d5.tail.tail)
        · have h4 : iandNot .i64 need S[p].r = 0 := by
            by_cases e : iandNot .i64 need S[p].r = 0
            · exact e
            · rw [if_neg e] at h3; omega
          refine ldAll d4.get rfl ?_
          refine d_st (D.pick 2 d4) rfl (by simp) (ones rfl) fun w5 d5 => ?_
          exact ldAll d5.get rfl ((rest (by omega)).2 h4 _ d5.tail.tail)
    · refine ld1 d4.get rfl ?_
      refine call_of (fun _ _ => rfl) (Need_ok ?_)
      simp +decide only [Cnd_b, BinI_neq, decide_eq_true_eq, decide_eq_false_iff_not, Bool.not_true, Bool.not_false, Bool.not_eq_eq_eq_not]
      refine ⟨fun h3 => ?_, fun h3 => ?_⟩
      · have h4 : iandNot .i64 need S[p].r ≠ 0 := fun e => h3 (if_pos e)
        refine bld_ok (cs := #[.int .i64 0, .int .i64 0, .int .i64 0]) rfl ?_
        refine d_st (D.pick 2 d4) rfl (by simp) (ones rfl) fun w5 d5 => ?_
        rw [if_neg h4]
        exact ldAll d5.get rfl ((rest (by omega)).1 h4 _ d5.tail.tail)
      · have h4 : iandNot .i64 need S[p].r = 0 := by
          by_cases e : iandNot .i64 need S[p].r = 0
          · exact e
          · rw [if_neg e] at h3; omega
        refine ldAll d4.get rfl ?_
        refine d_st (D.pick 2 d4) rfl (by simp) (ones rfl) fun w5 d5 => ?_
        exact ldAll d5.get rfl ((rest (by omega)).2 h4 _ d5.tail.tail)
end
end Go.Proofs.Ytgcnebacjkpfmaa
