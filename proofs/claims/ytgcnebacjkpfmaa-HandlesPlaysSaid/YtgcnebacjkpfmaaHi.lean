/- Handles: fewer rights; one more, another one of the same object. -/
import Derived.Test.YtgcnebacjkpfmaaHh
set_option maxRecDepth 100000
namespace Go.Proofs.Ytgcnebacjkpfmaa
open Go Go.Jac
/-- The rights that are left, and whether that may be. -/
def redS (r want : Int) : Int := if want = 2147483648 then 0 else if iandNot .i64 want 4095 = 0 ∧ iandNot .i64 want r = 0 then 0 else -10
def redR (r want : Int) : Int := if want = 2147483648 then r else if iandNot .i64 want 4095 = 0 ∧ iandNot .i64 want r = 0 then want else 0
section
variable {w0 w : World} {L : List HP} {K : Value → WP} {b : Nat} {cap : Int} {S : List Slot}
theorem Reduce_ok {r want : Int} (k : K (.tuple #[.int .i64 (redR r want), .int .i64 (redS r want)]) w) : Cl pg 37 #[.int .i64 r, .int .i64 want] K w := by
  refine V.rights_Rights_Reduce_ok ?_
  unfold V.rights_Rights_Reduce
  unfold redR redS at k
  simp +decide only [Cnd_b, BinI_eql, decide_eq_true_eq, decide_eq_false_iff_not]
  refine ⟨fun h => ?_, fun h => ?_⟩
  · rw [if_pos h, if_pos h] at k; exact k
  · rw [if_neg h, if_neg h] at k
    refine call_of (fun _ _ => rfl) (V.rights_Rights_Right_ok ?_)
    unfold V.rights_Rights_Right
    simp +decide only [Grd_f, BinI_andNot, BinI_eql, Un_not, decide_eq_true_eq, decide_eq_false_iff_not, Bool.not_true, Bool.not_false, Bool.not_eq_eq_eq_not]
    refine ⟨fun h2 => ?_, fun h2 => ?_⟩
    · refine call_of (fun _ _ => rfl) (Has_ok ?_)
      simp +decide only [Cnd_b, Un_not, decide_eq_true_eq, decide_eq_false_iff_not, Bool.not_true, Bool.not_false, Bool.not_eq_eq_eq_not]
      refine ⟨fun h3 => ?_, fun h3 => ?_⟩
      · rw [if_neg (fun h => h3 h.2), if_neg (fun h => h3 h.2)] at k; exact k
      · rw [if_pos ⟨h2, h3⟩, if_pos ⟨h2, h3⟩] at k; exact k
    · rw [if_neg (fun h => h2 h.1), if_neg (fun h => h2 h.1)] at k; exact k
theorem redS_0 {r want : Int} (h : redS r want = 0) : want = 2147483648 ∧ redR r want = r ∨ redR r want = want ∧ iandNot .i64 want r = 0 := by
  unfold redS at h
  unfold redR
  split at h
  · rename_i e; rw [if_pos e]; exact .inl ⟨e, rfl⟩
  · rename_i e
    rw [if_neg e]
    split at h
    · rename_i e2; rw [if_pos e2]; exact .inr ⟨rfl, e2.2⟩
    · omega
/-- One more of the same object: refused, full, or done. -/
theorem Duplicate_ok {v want dr : Int} (hv : I64 v) (hS : TOk cap S) (d : D w0 (Tb b cap S :: L) w)
    (k1 : ∀ (s : Int) w', s ≠ 0 → ((look S v = none ∧ s = -11) ∨ ∃ p, ∃ hp : p < S.length, look S v = some p ∧ ((findS S[p] 0 1 ≠ 0 ∧ s = findS S[p] 0 1) ∨ (findS S[p] 0 1 = 0 ∧ redS S[p].r want ≠ 0 ∧ s = redS S[p].r want) ∨ (findS S[p] 0 1 = 0 ∧ redS S[p].r want = 0 ∧ cnt S = cap ∧ s = -4))) → D w0 (Tb b cap S :: L) w' → K (.tuple #[.int .i64 0, .int .i64 s]) w')
    (k2 : ∀ p (hp : p < S.length), look S v = some p → findS S[p] 0 1 = 0 → redS S[p].r want = 0 → cnt S ≠ cap → ∀ w', D w0 (Tb b cap (adS S ⟨hval (fre S) dr, S[p].o, S[p].k, redR S[p].r want⟩) :: L) w' → K (.tuple #[.int .i64 (hval (fre S) dr), .int .i64 0]) w') :
    Cl pg 22 #[.pointer (some ⟨b, 0, none⟩), .int .i64 v, .int .i64 want, .int .i64 dr] K w := by
  refine V.handles_Table_Duplicate_ok ?_
  unfold V.handles_Table_Duplicate
  refine call_of (fun _ _ => rfl) (Find_ok hv d (fun hn w1 d1 => ?_) fun p hp hl w1 d1 => ?_)
  · simp +decide only [Ext_20, Ext_21]
    refine d_new [.int .i64 0, .int .i64 0, .int .i64 0] d1 fun be w2 d2 => ?_
    refine d_st d2 rfl (by simp []) (ones rfl) fun w3 d3 => ?_
    simp +decide only [FA_p, Cnd_b, BinI_neq, false_implies, and_true, forall_const]
    exact k1 _ _ (by decide) (.inl ⟨hn, rfl⟩) d3.tail
  · simp +decide only [Ext_20, Ext_21]
    refine d_new [.int .i64 0, .int .i64 0, .int .i64 0] d1 fun be w2 d2 => ?_
    by_cases hf : findS S[p] 0 1 = 0
    · rw [hf, if_pos rfl]
      refine d_st d2 rfl (by simp []) (ones rfl) fun w3 d3 => ?_
      have d3 : D w0 (cel be 35 [.int .i64 S[p].o, .int .i64 S[p].k, .int .i64 S[p].r] :: Tb b cap S :: L) w3 := d3
      simp +decide only [FA_p, Cnd_b, BinI_neq, false_implies, true_and, forall_const]
      refine ld1 d3.get rfl ?_
      refine call_of (fun _ _ => rfl) (Reduce_ok ?_)
      simp +decide only [FA_p, Ext_20, Ext_21]
      refine d_st d3 rfl (by simp) (ones rfl) fun w4 d4 => ?_
      have d4 : D w0 (cel be 35 [.int .i64 S[p].o, .int .i64 S[p].k, .int .i64 (redR S[p].r want)] :: Tb b cap S :: L) w4 := d4
      simp +decide only [Cnd_b, BinI_neq, decide_eq_true_eq, decide_eq_false_iff_not, Bool.not_true, Bool.not_false, Bool.not_eq_eq_eq_not]
      refine ⟨fun h => k1 _ _ h (.inr ⟨p, hp, hl, .inr (.inl ⟨hf, h, rfl⟩)⟩) d4.tail, fun h => ?_⟩
      refine ldAll d4.get rfl ?_
      by_cases hc : cnt S = cap
      · refine call_of (fun _ _ => rfl) (Add_full (o := S[p].o) (kd := S[p].k) (r := redR S[p].r want) rfl hc d4.tail fun w5 d5 => ?_)
        simp +decide only [Ext_20, Ext_21]
        exact k1 _ _ (by decide) (.inr ⟨p, hp, hl, .inr (.inr ⟨hf, h, hc, rfl⟩)⟩) d5
      · refine call_of (fun _ _ => rfl) (Add_ok (o := S[p].o) (kd := S[p].k) (r := redR S[p].r want) rfl hS hc d4.tail fun w5 d5 => ?_)
        simp +decide only [Ext_20, Ext_21]
        exact k2 p hp hl hf h hc _ d5
    · rw [if_neg hf]
      refine d_st d2 rfl (by simp []) (ones rfl) fun w3 d3 => ?_
      simp +decide only [FA_p, Cnd_b, BinI_neq, decide_eq_true_eq, decide_eq_false_iff_not, Bool.not_true, Bool.not_false, Bool.not_eq_eq_eq_not]
      exact ⟨fun _ => k1 _ _ hf (.inr ⟨p, hp, hl, .inl ⟨hf, rfl⟩⟩) d3.tail, fun h => absurd h hf⟩
/-- Another one of the same object: refused; lost; or done. -/
theorem Replace_ok {v want dr : Int} (hv : I64 v) (hS : TOk cap S) (d : D w0 (Tb b cap S :: L) w)
    (k1 : look S v = none → ∀ w', D w0 (Tb b cap S :: L) w' → K (.tuple #[.int .i64 0, ent 0 0 0, .int .i64 (-11)]) w')
    (k2 : ∀ p (hp : p < S.length), look S v = some p → redS S[p].r want ≠ 0 → TOk cap (S.set p ⟨0, 0, 0, 0⟩) → ∀ w', D w0 (Tb b cap (S.set p ⟨0, 0, 0, 0⟩) :: L) w' → K (.tuple #[.int .i64 0, S[p].ent, .int .i64 (redS S[p].r want)]) w')
    (k3 : ∀ p (hp : p < S.length), look S v = some p → redS S[p].r want = 0 → TOk cap (S.set p ⟨0, 0, 0, 0⟩) → cnt (S.set p ⟨0, 0, 0, 0⟩) ≠ cap → ∀ w', D w0 (Tb b cap (adS (S.set p ⟨0, 0, 0, 0⟩) ⟨hval (fre (S.set p ⟨0, 0, 0, 0⟩)) dr, S[p].o, S[p].k, redR S[p].r want⟩) :: L) w' →
      K (.tuple #[.int .i64 (hval (fre (S.set p ⟨0, 0, 0, 0⟩)) dr), ent 0 0 0, .int .i64 0]) w') :
    Cl pg 24 #[.pointer (some ⟨b, 0, none⟩), .int .i64 v, .int .i64 want, .int .i64 dr] K w := by
  refine V.handles_Table_Replace_ok ?_
  unfold V.handles_Table_Replace
  refine d_new [.int .i64 0, .int .i64 0, .int .i64 0] d fun b9 w1 d1 => ?_
  refine call_of (fun _ _ => rfl) (Close_ok hv hS d1.swap (fun hn w2 d2 => ?_) fun p hp hl hT w2 d2 => ?_)
  · simp +decide only [Ext_20, Ext_21]
    refine d_new [.int .i64 0, .int .i64 0, .int .i64 0] d2 fun be w3 d3 => ?_
    refine d_st d3 rfl (by simp []) (ones rfl) fun w4 d4 => ?_
    simp +decide only [FA_p, Cnd_b, BinI_neq, false_implies, and_true, forall_const]
    refine bld_ok (cs := #[.int .i64 0, .int .i64 0, .int .i64 0]) rfl ?_
    refine d_st (D.sel [2] d4) rfl (by simp) (ones rfl) fun w5 d5 => ?_
    exact ldAll d5.get rfl (k1 hn _ d5.tail.tail)
  · simp +decide only [Ext_20, Ext_21]
    refine d_new [.int .i64 0, .int .i64 0, .int .i64 0] d2 fun be w3 d3 => ?_
    refine d_st d3 rfl (by simp []) (ones rfl) fun w4 d4 => ?_
    have d4 : D w0 (cel be 35 [.int .i64 S[p].o, .int .i64 S[p].k, .int .i64 S[p].r] :: Tb b cap (S.set p ⟨0, 0, 0, 0⟩) :: cel b9 35 [.int .i64 0, .int .i64 0, .int .i64 0] :: L) w4 := d4
    simp +decide only [FA_p, Cnd_b, BinI_neq, false_implies, true_and, forall_const]
    refine ld1 d4.get rfl ?_
    refine call_of (fun _ _ => rfl) (Reduce_ok ?_)
    simp +decide only [FA_p, Ext_20, Ext_21, Cnd_b, BinI_neq, decide_eq_true_eq, decide_eq_false_iff_not, Bool.not_true, Bool.not_false, Bool.not_eq_eq_eq_not]
    refine ⟨fun h => ?_, fun h => ?_⟩
    · have d := d4
      repeat (first | refine drw d fun w d => ?_ | (apply lam d; (focus ((repeat (first | exact .h _ | refine .t _ _ ?_)); done)); (focus rfl)) | refine qt d ?_ | (apply qam; (focus ((repeat (first | exact .h _ | refine .t _ _ ?_)); done)); (focus rfl)) | (apply swm d; (focus ((repeat (first | exact .h _ | apply Rp.t)); done)); (focus rfl); (focus rfl); (focus exact ones rfl); intro w d; simp only [SPL] at d))
      exact k2 p hp hl h hT _ (D.sel [0, 2, 1] d).tail.tail
    · refine d_st d4 rfl (by simp) (ones rfl) fun w5 d5 => ?_
      have d5 : D w0 (cel be 35 [.int .i64 S[p].o, .int .i64 S[p].k, .int .i64 (redR S[p].r want)] :: Tb b cap (S.set p ⟨0, 0, 0, 0⟩) :: cel b9 35 [.int .i64 0, .int .i64 0, .int .i64 0] :: L) w5 := d5
      refine ldAll d5.get rfl ?_
      have hc : cnt (S.set p ⟨0, 0, 0, 0⟩) ≠ cap := by
        obtain ⟨_, hpv, _⟩ := look_some hl
        have h1 := cnt_set hp ⟨0, 0, 0, 0⟩
        rw [if_pos (by rw [hpv]; exact look_ne hl), if_neg (by simp)] at h1
        have h2 := cnt_le S
        have h3 := hS.1
        omega
      refine call_of (fun _ _ => rfl) (Add_ok (o := S[p].o) (kd := S[p].k) (r := redR S[p].r want) rfl hT hc d5.tail fun w6 d6 => ?_)
      simp +decide only [Ext_20, Ext_21]
      refine bld_ok (cs := #[.int .i64 0, .int .i64 0, .int .i64 0]) rfl ?_
      refine d_st d6.swap rfl (by simp) (ones rfl) fun w7 d7 => ?_
      exact ldAll d7.get rfl (k3 p hp hl h hT hc _ d7.tail)
end
end Go.Proofs.Ytgcnebacjkpfmaa
