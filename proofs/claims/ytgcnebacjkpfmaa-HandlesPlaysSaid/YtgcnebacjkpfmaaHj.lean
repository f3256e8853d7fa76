/- Handles: no right that was not there. -/
import Derived.Test.YtgcnebacjkpfmaaHi
import Derived.Test.YtgcnebacjkpfmaaSh
import Derived.Test.YtgcnebacjkpfmaaR
set_option maxRecDepth 100000
namespace Go.Proofs.Ytgcnebacjkpfmaa
open Go Go.Jac
theorem iandNot_0 {a b : Int} : iandNot .i64 a b = 0 ↔ (BitVec.ofInt 64 a &&& ~~~ BitVec.ofInt 64 b) = 0#64 := by
  show IntKind.i64.wrap ((BitVec.ofInt 64 a &&& ~~~ BitVec.ofInt 64 b).toNat : Nat) = 0 ↔ _
  rw [IntKind.wrap_i64]
  have h := (BitVec.ofInt 64 a &&& ~~~ BitVec.ofInt 64 b).isLt
  constructor
  · intro e
    apply BitVec.eq_of_toNat_eq
    have : (0#64).toNat = 0 := rfl
    rw [this]
    omega
  · intro e; rw [e, show (0#64).toNat = 0 from rfl]; omega
theorem iandNot_self (a : Int) : iandNot .i64 a a = 0 := by
  rw [iandNot_0]
  apply BitVec.eq_of_getLsbD_eq
  intro i hi
  simp [hi]
theorem iandNot_trans {a b c : Int} (h1 : iandNot .i64 a b = 0) (h2 : iandNot .i64 b c = 0) : iandNot .i64 a c = 0 := by
  rw [iandNot_0] at *
  apply BitVec.eq_of_getLsbD_eq
  intro i hi
  have e1 := congrArg (fun x => x.getLsbD i) h1
  have e2 := congrArg (fun x => x.getLsbD i) h2
  simp only [BitVec.getLsbD_and, BitVec.getLsbD_not, BitVec.getLsbD_zero, hi, decide_true, Bool.true_and] at e1 e2 ⊢
  generalize (BitVec.ofInt 64 a).getLsbD i = x at *
  generalize (BitVec.ofInt 64 b).getLsbD i = y at *
  generalize (BitVec.ofInt 64 c).getLsbD i = z at *
  cases x <;> cases y <;> cases z <;> simp_all
theorem red_sub {r want : Int} (h : redS r want = 0) : iandNot .i64 (redR r want) r = 0 := by
  rcases redS_0 h with ⟨_, e⟩ | ⟨e, h2⟩
  · rw [e]; exact iandNot_self r
  · rw [e]; exact h2
theorem adS_get (S : List Slot) (x : Slot) (p : Nat) : (adS S x)[p]? = if p = fre S then some x else S[p]? := by
  have hl := fre_le S
  unfold adS
  split
  · rename_i h
    rw [List.getElem?_set]
    by_cases e : fre S = p
    · subst e; simp [h]
    · rw [if_neg e, if_neg fun h => e h.symm]
  · rename_i h
    have e : fre S = S.length := by omega
    rw [e, List.getElem?_append]
    by_cases hp : p < S.length
    · rw [if_pos hp, if_neg (by omega)]
    · rw [if_neg hp]
      by_cases hq : p = S.length
      · subst hq; simp
      · rw [if_neg hq, List.getElem?_eq_none (by simp; omega), List.getElem?_eq_none (by omega)]
/-- What holds of each place that is taken. -/
def RInv (first : Int) (S : List Slot) : Prop := ∀ (p : Nat) (x : Slot), S[p]? = some x → x.v ≠ 0 → hplc x.v = p ∧ x.o = 1 ∧ x.k = 7 ∧ iandNot .i64 x.r first = 0
theorem RInv.set0 {first : Int} {S : List Slot} (h : RInv first S) (p : Nat) : RInv first (S.set p ⟨0, 0, 0, 0⟩) := by
  intro q x hx hv
  rw [List.getElem?_set] at hx
  split at hx
  · split at hx
    · cases hx; exact absurd rfl hv
    · cases hx
  · exact h q x hx hv
theorem RInv.ad {first : Int} {S : List Slot} (h : RInv first S) (hl : fre S < 65536) {dr r : Int} (hr : iandNot .i64 r first = 0) : RInv first (adS S ⟨hval (fre S) dr, 1, 7, r⟩) := by
  intro q x hx hv
  rw [adS_get] at hx
  split at hx
  · rename_i e
    obtain rfl := Option.some.inj hx
    subst e
    have e1 := hplc_hval (fre S : Int) dr (by omega) (by omega)
    simp only [e1, hr, and_self]
  · exact h q x hx hv
theorem hplc_i64 {v : Int} {p : Nat} (h : hplc v = p) : I64 v := by
  unfold hplc at h
  split at h
  · unfold I64; omega
  · omega
theorem look_atJ {S : List Slot} {v : Int} {p : Nat} (hp : p < S.length) (h1 : hplc v = p) : look S v = if S[p].v = v then some p else none := by
  unfold look
  rw [dif_pos (by omega)]
  simp [h1]
theorem look_of {S : List Slot} {v : Int} {p : Nat} {x : Slot} (hx : S[p]? = some x) (h1 : hplc v = p) (h2 : x.v = v) : look S v = some p := by
  obtain ⟨hp, e⟩ := List.getElem?_eq_some_iff.1 hx
  rw [look_atJ hp h1, if_pos (by rw [e]; exact h2)]
/-- A taken place is found by its value. -/
theorem tkn_look {first : Int} {S : List Slot} (h : RInv first S) {n : Nat} {x : Slot} (hx : (tkn S)[n]? = some x) : ∃ p, S[p]? = some x ∧ look S x.v = some p ∧ x.v ≠ 0 := by
  have hm := List.mem_of_getElem? hx
  unfold tkn at hm
  rw [List.mem_filter] at hm
  obtain ⟨p, hp⟩ := List.mem_iff_getElem?.1 hm.1
  have hv : x.v ≠ 0 := by simpa using hm.2
  exact ⟨p, hp, look_of hp (h p x hp hv).1 rfl, hv⟩
end Go.Proofs.Ytgcnebacjkpfmaa
