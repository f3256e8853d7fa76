/- Handles: the reference's rights. -/
import Derived.Test.YtgcnebacjkpfmaaHj
import Derived.Test.YtgcnebacjkpfmaaSk
set_option maxRecDepth 100000
set_option maxHeartbeats 4000000
namespace Go.Proofs.Ytgcnebacjkpfmaa
open Go Go.Jac
theorem bit_mod (n : Int) (i : Nat) (hi : i < 64) : n % 2 ^ 64 / 2 ^ i % 2 = n / 2 ^ i % 2 := by
  have e : (2 : Int) ^ 64 = 2 ^ i * (2 * 2 ^ (63 - i)) := by
    have e1 : 64 = i + (1 + (63 - i)) := by omega
    calc (2 : Int) ^ 64 = 2 ^ (i + (1 + (63 - i))) := by rw [← e1]
      _ = 2 ^ i * (2 * 2 ^ (63 - i)) := by rw [Int.pow_add, Int.pow_add]; rfl
  have h := Int.emod_add_mul_ediv n (2 ^ 64)
  generalize hq : n / 2 ^ 64 = q at h
  generalize hm : n % 2 ^ 64 = m at h ⊢
  have hp : (2 : Int) ^ i ≠ 0 := Int.ne_of_gt (Int.pow_pos (by decide))
  rw [← h, e, Int.mul_assoc, Int.add_mul_ediv_left _ _ hp, Int.mul_assoc, Int.add_mul_emod_self_left]
theorem ofInt_bit (n : Int) (i : Nat) (hi : i < 64) : (BitVec.ofInt 64 n).getLsbD i = decide (n / 2 ^ i % 2 = 1) := by
  have h := bit_mod n i hi
  unfold BitVec.getLsbD
  rw [BitVec.toNat_ofInt, Nat.testBit_eq_decide_div_mod_eq, ← h, show (((2 ^ 64 : Nat) : Int)) = 2 ^ 64 from by norm_cast]
  have h0 : 0 ≤ n % 2 ^ 64 := Int.emod_nonneg _ (by decide)
  generalize n % 2 ^ 64 = m at h0
  obtain ⟨k, rfl⟩ := Int.eq_ofNat_of_zero_le h0
  have e : ((k : Int) / 2 ^ i % 2 = 1) ↔ (k / 2 ^ i % 2 = 1) := by
    rw [show ((k : Int) / 2 ^ i % 2) = ((k / 2 ^ i % 2 : Nat) : Int) by push_cast; rfl]
    omega
  simp only [e, Int.toNat_natCast]
/-- Are all bits of the second in the first? -/
theorem sub_iff (n m : Int) : iandNot .i64 m n = 0 ↔ ∀ i < 64, m / 2 ^ i % 2 = 1 → n / 2 ^ i % 2 = 1 := by
  rw [iandNot_0]
  constructor
  · intro h i hi hb
    have e := congrArg (fun x => x.getLsbD i) h
    simp only [BitVec.getLsbD_and, BitVec.getLsbD_not, BitVec.getLsbD_zero, hi, decide_true, Bool.true_and, ofInt_bit _ _ hi] at e
    simpa [hb] using e
  · intro h
    apply BitVec.eq_of_getLsbD_eq
    intro i hi
    simp only [BitVec.getLsbD_and, BitVec.getLsbD_not, BitVec.getLsbD_zero, hi, decide_true, Bool.true_and, ofInt_bit _ _ hi]
    have := h i hi
    by_cases hb : m / 2 ^ i % 2 = 1
    · simp [hb, this hb]
    · simp [hb]
theorem iandNot_mask {w : Int} (hw : I64 w) : iandNot .i64 w 4095 = 0 ↔ 0 ≤ w ∧ w ≤ 4095 := by
  unfold I64 at hw
  have hm : iand .i64 w 4095 = w % 4096 := iand_mask w 12 (by omega) 4095 (by decide)
  have key : iandNot .i64 w 4095 = 0 ↔ (BitVec.ofInt 64 w &&& BitVec.ofInt 64 4095) = BitVec.ofInt 64 w := by
    rw [iandNot_0]
    constructor
    · intro h
      apply BitVec.eq_of_getLsbD_eq
      intro i hi
      have e := congrArg (fun x => x.getLsbD i) h
      simp only [BitVec.getLsbD_and, BitVec.getLsbD_not, BitVec.getLsbD_zero, hi, decide_true, Bool.true_and] at e ⊢
      generalize (BitVec.ofInt 64 w).getLsbD i = x at *
      generalize (BitVec.ofInt 64 4095).getLsbD i = y at *
      cases x <;> cases y <;> simp_all
    · intro h
      apply BitVec.eq_of_getLsbD_eq
      intro i hi
      have e := congrArg (fun x => x.getLsbD i) h
      simp only [BitVec.getLsbD_and, BitVec.getLsbD_not, BitVec.getLsbD_zero, hi, decide_true, Bool.true_and] at e ⊢
      generalize (BitVec.ofInt 64 w).getLsbD i = x at *
      generalize (BitVec.ofInt 64 4095).getLsbD i = y at *
      cases x <;> cases y <;> simp_all
  have hi : iand .i64 w 4095 = IntKind.i64.wrap ((BitVec.ofInt 64 w &&& BitVec.ofInt 64 4095).toNat : Nat) := rfl
  rw [key]
  constructor
  · intro h
    rw [h, hm] at hi
    rw [IntKind.wrap_i64, BitVec.toNat_ofInt] at hi
    omega
  · intro h
    apply BitVec.eq_of_toNat_eq
    rw [hm, IntKind.wrap_i64] at hi
    have h1 := (BitVec.ofInt 64 w &&& BitVec.ofInt 64 4095).isLt
    rw [BitVec.toNat_ofInt]
    omega
theorem redS_iff {r want : Int} (hw : I64 want) : redS r want = if want = 2147483648 then 0 else if want < 0 ∨ 4095 < want ∨ iandNot .i64 want r ≠ 0 then -10 else 0 := by
  unfold redS
  have := iandNot_mask hw
  split
  · rfl
  · by_cases h : iandNot .i64 want r = 0
    · by_cases h2 : iandNot .i64 want 4095 = 0
      · have := this.1 h2
        rw [if_pos ⟨h2, h⟩, if_neg (by omega)]
      · have h3 : ¬ (0 ≤ want ∧ want ≤ 4095) := fun h' => h2 (this.2 h')
        rw [if_neg (fun h' => h2 h'.1), if_pos (by omega)]
    · rw [if_neg (fun h' => h h'.2), if_pos (.inr (.inr h))]
section
variable {w0 w : World} {L : List HP} {K : Value → WP}
theorem Has4_ok {n : Int} {i : Nat} (hi : i < 64) (k : K (.bool (decide (n / 2 ^ i % 2 = 1))) w) : Cl pg 54 #[.int .i64 n, .int .i64 i] K w := by
  refine V.jacinthref04_Has_ok ?_
  unfold V.jacinthref04_Has
  rw [BinI_shr ⟨by omega, by show ((i : Int)).toNat ≤ _; rw [bits_i64]; omega⟩]
  have f1 : n.fdiv (2 ^ (i : Int).toNat) = n / 2 ^ i := by
    rw [Int.toNat_natCast]
    exact Int.fdiv_eq_ediv_of_nonneg _ (Int.le_of_lt (Int.pow_pos (by decide)))
  have e2 : iand .i64 (n / 2 ^ i) 1 = n / 2 ^ i % 2 := iand_mask _ 1 (by omega) 1 (by decide)
  rw [f1, BinI_and, e2, BinI_eql]
  exact k
theorem Sub_ok {n m : Int} (k : K (.bool (decide (iandNot .i64 m n = 0))) w) : Cl pg 52 #[.int .i64 n, .int .i64 m] K w := by
  refine V.jacinthref04_Sub_ok ?_
  unfold V.jacinthref04_Sub
  refine ⟨fun vs w' => ∃ (u : Value) (i : Nat), vs = [u, .int .i64 i] ∧ i ≤ 64 ∧ (∀ j < i, m / 2 ^ j % 2 = 1 → n / 2 ^ j % 2 = 1) ∧ w' = w, fun vs _ => match vs with | [_, .int _ i] => 64 - i.toNat | _ => 0, ⟨_, 0, rfl, by omega, fun j h => by omega, rfl⟩, ?_⟩
  rintro _ w' ⟨u, i, rfl, hi, hg, rfl⟩ _
  simp +decide only [UN, Cnd_b, BinI_lss, decide_eq_true_eq, decide_eq_false_iff_not]
  have next : (∀ j < i + 1, m / 2 ^ j % 2 = 1 → n / 2 ^ j % 2 = 1) → i < 64 → (∃ (u' : Value) (i' : Nat), [u, Value.int .i64 ((i : Int) + 1)] = [u', .int .i64 i'] ∧ i' ≤ 64 ∧ (∀ j < i', m / 2 ^ j % 2 = 1 → n / 2 ^ j % 2 = 1)) ∧ 64 - ((i : Int) + 1).toNat < 64 - (i : Int).toNat :=
    fun h h2 => ⟨⟨u, i + 1, by simp, by omega, h⟩, by omega⟩
  have ext : ∀ (h : i < 64), (m / 2 ^ i % 2 = 1 → n / 2 ^ i % 2 = 1) → ∀ j < i + 1, m / 2 ^ j % 2 = 1 → n / 2 ^ j % 2 = 1 := fun h hh j hj => by
    by_cases e : j = i
    · subst e; exact hh
    · exact hg j (by omega)
  refine ⟨fun hlt => ?_, fun hge => ?_⟩
  · have hlt' : i < 64 := by omega
    have hw1 : IntKind.i64.wrap ((i : Int) + 1) = i + 1 := w64 (by omega) (by omega)
    refine call_of (fun _ _ => rfl) (Has4_ok hlt' ?_)
    simp +decide only [Grd_t, BinI_add, decide_eq_true_eq, decide_eq_false_iff_not, and_true, hw1]
    refine ⟨fun h1 => ?_, fun h1 => ?_⟩
    · refine call_of (fun _ _ => rfl) (Has4_ok hlt' ?_)
      simp +decide only [Cnd_b, BinI_add, Un_not, decide_eq_true_eq, decide_eq_false_iff_not, Bool.not_true, Bool.not_false, Bool.not_eq_eq_eq_not, and_true, hw1]
      refine ⟨fun h2 => ?_, fun h2 => ?_⟩
      · have : ¬ iandNot .i64 m n = 0 := fun h => h2 ((sub_iff n m).1 h i hlt' h1)
        rw [decide_eq_false this] at k
        exact k
      · exact next (ext hlt' fun _ => h2) hlt'
    · exact next (ext hlt' fun h => absurd h h1) hlt'
  · have : iandNot .i64 m n = 0 := (sub_iff n m).2 fun j hj => hg j (by omega)
    rw [decide_eq_true this] at k
    exact k
theorem RReduce_ok {r want : Int} (hw : I64 want) (k : K (.tuple #[.int .i64 (redR r want), .int .i64 (redS r want)]) w) : Cl pg 53 #[.int .i64 r, .int .i64 want] K w := by
  refine V.jacinthref06_Reduce_ok ?_
  unfold V.jacinthref06_Reduce
  have hm := iandNot_mask hw
  unfold redR redS at k
  simp +decide only [Cnd_b, Grd_f, BinI_eql, BinI_lss, BinI_gtr, decide_eq_true_eq, decide_eq_false_iff_not]
  have no : ¬ want = 2147483648 → ¬ (iandNot .i64 want 4095 = 0 ∧ iandNot .i64 want r = 0) → K (.tuple #[.int .i64 0, .int .i64 (-10)]) w := fun h1 h2 => by
    rw [if_neg h1, if_neg h1, if_neg h2, if_neg h2] at k; exact k
  refine ⟨fun h => ?_, fun h => ⟨fun h2 => ⟨fun h3 => ?_, fun h3 => no h fun h' => ?_⟩, fun h2 => no h fun h' => ?_⟩⟩
  · rw [if_pos h, if_pos h] at k; exact k
  rotate_left
  · have := hm.1 h'.1; omega
  · have := hm.1 h'.1; omega
  · refine call_of (fun _ _ => rfl) (Sub_ok ?_)
    simp +decide only [Cnd_b, Un_not, decide_eq_true_eq, decide_eq_false_iff_not, Bool.not_true, Bool.not_false, Bool.not_eq_eq_eq_not]
    refine ⟨fun h4 => no h fun h' => h4 h'.2, fun h4 => ?_⟩
    have h5 := hm.2 ⟨by omega, by omega⟩
    rw [if_neg h, if_neg h, if_pos ⟨h5, h4⟩, if_pos ⟨h5, h4⟩] at k; exact k
end
end Go.Proofs.Ytgcnebacjkpfmaa
