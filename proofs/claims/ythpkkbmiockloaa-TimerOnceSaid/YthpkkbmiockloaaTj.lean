/- Timers: what is still wanted, in plain words. -/
import Derived.Test.YthpkkbmiockloaaTi
set_option maxRecDepth 100000
namespace Go.Proofs.Ythpkkbmiockloaa
open Go Go.Jac
def wlf : Nat → List Int → List Te
  | _, [] => []
  | k, d :: r => if 0 ≤ d then ⟨d, k⟩ :: wlf (k + 1) r else wlf (k + 1) r
theorem wlf_nil {k : Nat} : wlf k [] = [] := rfl
theorem wlf_cons {k : Nat} {d : Int} {r : List Int} : wlf k (d :: r) = if 0 ≤ d then ⟨d, k⟩ :: wlf (k + 1) r else wlf (k + 1) r := rfl
theorem wlf_app : ∀ (A B : List Int) (k : Nat), wlf k (A ++ B) = wlf k A ++ wlf (k + A.length) B
  | [], B, k => rfl
  | d :: r, B, k => by
    have ih := wlf_app r B (k + 1)
    simp only [List.cons_append, wlf_cons, ih, List.length_cons]
    rw [show k + 1 + r.length = k + (r.length + 1) from by omega]
    split <;> rfl
theorem wlf_mem {x : Te} : ∀ {W : List Int} {k : Nat}, x ∈ wlf k W ↔ ∃ i, ∃ h : i < W.length, W[i] = x.dl ∧ 0 ≤ x.dl ∧ x.key = (k + i : Nat)
  | [], k => by simp [wlf_nil]
  | d :: r, k => by
    have ih := wlf_mem (x := x) (W := r) (k := k + 1)
    have step : (∃ i, ∃ h : i < (d :: r).length, (d :: r)[i] = x.dl ∧ 0 ≤ x.dl ∧ x.key = (k + i : Nat)) ↔ (d = x.dl ∧ 0 ≤ x.dl ∧ x.key = (k : Nat)) ∨ ∃ i, ∃ h : i < r.length, r[i] = x.dl ∧ 0 ≤ x.dl ∧ x.key = (k + 1 + i : Nat) := by
      constructor
      · rintro ⟨i, h, h1, h2, h3⟩
        cases i with
        | zero => exact .inl ⟨h1, h2, h3⟩
        | succ i => exact .inr ⟨i, by simpa using h, h1, h2, by rw [h3]; congr 1; omega⟩
      · rintro (⟨h1, h2, h3⟩ | ⟨i, h, h1, h2, h3⟩)
        · exact ⟨0, by simp, h1, h2, h3⟩
        · exact ⟨i + 1, by simpa using h, h1, h2, by rw [h3]; congr 1; omega⟩
    rw [step, ← ih]
    rw [wlf_cons]
    split
    · rename_i hd
      rw [List.mem_cons]
      constructor
      · rintro (rfl | h)
        · exact .inl ⟨rfl, hd, rfl⟩
        · exact .inr h
      · rintro (⟨h1, h2, h3⟩ | h)
        · left; cases x; simp_all
        · exact .inr h
    · rename_i hd
      constructor
      · exact fun h => .inr h
      · rintro (⟨h1, h2, h3⟩ | h)
        · omega
        · exact h
theorem wlf_set : ∀ {W : List Int} {k i : Nat}, i < W.length → wlf k (W.set i (-1)) = rem ((k + i : Nat) : Int) (wlf k W)
  | [], k, i, h => by simp at h
  | d :: r, k, 0, h => by
    have hno : ∀ x ∈ wlf (k + 1) r, x.key ≠ ((k + 0 : Nat) : Int) := fun x hx => by
      obtain ⟨i, _, _, _, h3⟩ := wlf_mem.1 hx
      omega
    rw [List.set_cons_zero]
    rw [wlf_cons, wlf_cons, if_neg (by omega)]
    split
    · unfold rem
      rw [List.filter_cons, if_neg (by simp)]
      exact (rem_none hno).symm
    · exact (rem_none hno).symm
  | d :: r, k, i + 1, h => by
    have ih := wlf_set (W := r) (k := k + 1) (i := i) (by simpa using h)
    rw [List.set_cons_succ]
    rw [wlf_cons, wlf_cons, ih, show k + 1 + i = k + (i + 1) from by omega]
    split
    · unfold rem
      rw [List.filter_cons, if_pos (by simp; omega)]
    · rfl
theorem rem_head {x : Te} {r : List Te} (h : ((x :: r).map (·.key)).Nodup) : rem x.key (x :: r) = r := by
  rw [List.map_cons, List.nodup_cons] at h
  unfold rem
  rw [List.filter_cons, if_neg (by simp)]
  exact rem_none fun y hy e => h.1 (List.mem_map.2 ⟨y, hy, e⟩)
end Go.Proofs.Ythpkkbmiockloaa
