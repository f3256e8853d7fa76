/- Handles: facts for the law of taking all or none. -/
import Derived.Test.YtgcnebacjkpfmaaHm
set_option maxRecDepth 100000
namespace Go.Proofs.Ytgcnebacjkpfmaa
open Go Go.Jac
/-- Closing one value hides just that. -/
theorem look_clo {S : List Slot} {v u : Int} : look (clo S v) u = if u = v then none else look S u := by
  unfold clo
  cases hl : look S v with
  | none =>
    simp only []
    by_cases e : u = v
    · subst e; rw [if_pos rfl]; exact hl
    · rw [if_neg e]
  | some p =>
    obtain ⟨hp, hv, hpl⟩ := look_some hl
    simp only []
    by_cases hu : hplc u = p
    · rw [look_set _ _ _ _ hp hu, look_at hp hu, hv]
      have hu0 : u ≠ 0 := by rintro rfl; have : hplc 0 = -1 := by decide
                             omega
      rw [if_neg (fun h => hu0 h.symm)]
      by_cases e : u = v
      · rw [if_pos e]
      · rw [if_neg e, if_neg fun h => e h.symm]
    · have huv : u ≠ v := by rintro rfl; exact hu hpl
      rw [if_neg huv]
      by_cases hr : 0 ≤ hplc u ∧ hplc u < S.length
      · obtain ⟨q, hq⟩ : ∃ q : Nat, hplc u = q := ⟨(hplc u).toNat, by omega⟩
        have hqp : q ≠ p := by rintro rfl; exact hu hq
        have hq' : q < S.length := by omega
        rw [look_at (by simpa using hq') hq, look_at hq' hq, List.getElem_set_ne (fun h => hqp h.symm)]
      · unfold look
        rw [dif_neg (by simpa using hr), dif_neg hr]
theorem look_cloN (l : List Int) (S : List Slot) (u : Int) : look (cloN S l) u = if u ∈ l then none else look S u := by
  induction l generalizing S with
  | nil => simp [cloN]
  | cons v r ih =>
    have e : cloN S (v :: r) = cloN (clo S v) r := rfl
    rw [e, ih, look_clo]
    by_cases h1 : u ∈ r
    · rw [if_pos h1, if_pos (by simp [h1])]
    · rw [if_neg h1]
      by_cases h2 : u = v
      · rw [if_pos h2, if_pos (by simp [h2])]
      · rw [if_neg h2, if_neg (by simp [h1, h2])]
theorem cnt_clo {S : List Slot} {v : Int} (h : look S v ≠ none) : cnt (clo S v) = cnt S - 1 := by
  cases hl : look S v with
  | none => exact absurd hl h
  | some p =>
    obtain ⟨hp, hv, _⟩ := look_some hl
    have e : clo S v = S.set p ⟨0, 0, 0, 0⟩ := by unfold clo; rw [hl]
    rw [e, cnt_set hp, if_pos (by rw [hv]; exact look_ne hl), if_neg (by simp)]
    omega
theorem tak_cons {S : List Slot} {v : Int} {r : List Int} (h : tak S (v :: r)) : look S v ≠ none ∧ tak (clo S v) r := by
  refine ⟨(h 0 (by simp)).1, fun i hi => ?_⟩
  have := h (i + 1) (by simpa using hi)
  simp only [List.getElem_cons_succ, List.take_succ_cons, List.mem_cons, not_or] at this
  exact ⟨by rw [look_clo, if_neg this.2.1]; exact this.1, this.2.2⟩
theorem cnt_cloN (l : List Int) (S : List Slot) (h : tak S l) : cnt (cloN S l) = cnt S - l.length := by
  induction l generalizing S with
  | nil => simp [cloN]
  | cons v r ih =>
    obtain ⟨h1, h2⟩ := tak_cons h
    have e : cloN S (v :: r) = cloN (clo S v) r := rfl
    rw [e, ih _ h2, cnt_clo h1]
    simp only [List.length_cons]; omega
/-- n places, each with its own square as the draw. -/
def rowSq (i : Nat) : List Slot := (List.range i).map fun (j : Nat) => ⟨hval j (j * j), j, 0, 0⟩
theorem rowSq_len (i : Nat) : (rowSq i).length = i := by simp [rowSq]
theorem rowSq_succ (i : Nat) : rowSq (i + 1) = rowSq i ++ [⟨hval i (i * i), i, 0, 0⟩] := by simp [rowSq, List.range_succ]
theorem rowSq_ne {i : Nat} (hi : i ≤ 65536) : ∀ x ∈ rowSq i, x.v ≠ 0 := by
  intro x hx
  simp only [rowSq, List.mem_map, List.mem_range] at hx
  obtain ⟨j, hj, rfl⟩ := hx
  have h := hval_ne (a := (j : Int)) (d := (j : Int) * j) ⟨by omega, by omega⟩
  simpa using h
theorem rowSq_get {i j : Nat} (h : j < (rowSq i).length) : (rowSq i)[j] = ⟨hval j (j * j), j, 0, 0⟩ := by simp [rowSq]
/-- The value that stands for a number of the list. -/
def fv (n : Nat) (k : Int) : Int := if 0 ≤ k ∧ k < n then hval k (k * k) else k
def fair (n : Nat) (k : Int) : Prop := (0 ≤ k ∧ k < n) ∨ ¬ (0 ≤ hplc k ∧ hplc k < n)
theorem look_fv {n : Nat} (hn : n ≤ 60) {k : Int} (h : fair n k) : look (rowSq n) (fv n k) = if 0 ≤ k ∧ k < n then some k.toNat else none := by
  unfold fv
  by_cases hk : 0 ≤ k ∧ k < n
  · rw [if_pos hk, if_pos hk]
    obtain ⟨q, rfl⟩ : ∃ q : Nat, k = q := ⟨k.toNat, by omega⟩
    have hq : q < (rowSq n).length := by rw [rowSq_len]; omega
    rw [look_at hq (hplc_hval q _ (by omega) (by omega)), rowSq_get, if_pos rfl, Int.toNat_natCast]
  · rw [if_neg hk, if_neg hk]
    rcases h with h | h
    · exact absurd h hk
    · unfold look
      rw [dif_neg (by rw [rowSq_len]; exact h)]
theorem fv_inj {n : Nat} (hn : n ≤ 60) {k j : Int} (hk : 0 ≤ k ∧ k < n) (hj : fair n j) (e : fv n j = fv n k) : j = k := by
  have h1 := look_fv hn (.inl hk : fair n k)
  have h2 := look_fv hn hj
  rw [e, h1, if_pos hk] at h2
  by_cases hj2 : 0 ≤ j ∧ j < n
  · rw [if_pos hj2] at h2
    have := Option.some.inj h2
    omega
  · rw [if_neg hj2] at h2; cases h2
/-- All of the list are places, none twice. -/
def whole (n : Nat) (l : List Int) : Prop := ∀ (i : Nat) (h : i < l.length), (0 ≤ l[i] ∧ l[i] < n) ∧ l[i] ∉ l.take i
theorem whole_tak {n : Nat} (hn : n ≤ 60) {l : List Int} (hf : ∀ k ∈ l, fair n k) : whole n l ↔ tak (rowSq n) (l.map (fv n)) := by
  have key : ∀ (i : Nat) (h : i < l.length), ((0 ≤ l[i] ∧ l[i] < n) ∧ l[i] ∉ l.take i) ↔ (look (rowSq n) (fv n l[i]) ≠ none ∧ fv n l[i] ∉ (l.map (fv n)).take i) := by
    intro i h
    rw [look_fv hn (hf _ (List.getElem_mem h))]
    by_cases hk : 0 ≤ l[i] ∧ l[i] < n
    · rw [if_pos hk]
      simp only [hk, and_self, true_and, ne_eq, reduceCtorEq, not_false_eq_true]
      rw [← List.map_take]
      simp only [List.mem_map, not_exists, not_and]
      constructor
      · intro h1 j hj e
        exact h1 (fv_inj hn hk (hf _ (List.mem_of_mem_take hj)) e ▸ hj)
      · intro h1 hm
        exact h1 _ hm rfl
    · rw [if_neg hk]
      simp [hk]
  constructor
  · intro h i hi
    have hi' : i < l.length := by simpa using hi
    simpa using (key i hi').1 (h i hi')
  · intro h i hi
    refine (key i hi).2 ?_
    have h1 := h i (by rw [List.length_map]; exact hi)
    rw [List.getElem_map] at h1
    exact h1
end Go.Proofs.Ytgcnebacjkpfmaa
