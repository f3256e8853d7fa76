/- Heaps of deadlines, in plain words. -/
import Derived.Test.YthpkkbmiockloaaSn
namespace Go.Proofs.Ythpkkbmiockloaa
open Go Go.Jac
structure Te where
  dl : Int
  key : Int
def at_ (H : List Te) (i : Nat) : Te := H.getD i ⟨0, 0⟩
theorem at_get {H : List Te} {i : Nat} (h : i < H.length) : at_ H i = H[i] := by
  unfold at_
  rw [List.getD_eq_getElem?_getD, List.getElem?_eq_getElem h]; rfl
theorem at_set {H : List Te} {i k : Nat} {x : Te} (h : i < H.length) : at_ (H.set i x) k = if k = i then x else at_ H k := by
  unfold at_
  rw [List.getD_eq_getElem?_getD, List.getD_eq_getElem?_getD, List.getElem?_set]
  by_cases e : i = k
  · subst e; simp [h]
  · rw [if_neg e, if_neg fun h => e h.symm]
def le (a b : Te) : Prop := a.dl < b.dl ∨ (a.dl = b.dl ∧ a.key ≤ b.key)
def pa (i : Nat) : Nat := (i - 1) / 2
/-- In order, but for one place. -/
structure HB (H : List Te) (i : Nat) : Prop where
  up : ∀ j, 0 < j → j < H.length → j ≠ i → pa j ≠ i → le (at_ H (pa j)) (at_ H j)
  gp : 0 < i → ∀ j, 0 < j → j < H.length → pa j = i → le (at_ H (pa i)) (at_ H j)
def Ch (H : List Te) (i : Nat) : Prop := ∀ j, 0 < j → j < H.length → pa j = i → le (at_ H i) (at_ H j)
def Pr (H : List Te) (i : Nat) : Prop := 0 < i → le (at_ H (pa i)) (at_ H i)
def Heap (H : List Te) : Prop := ∀ j, 0 < j → j < H.length → le (at_ H (pa j)) (at_ H j)
theorem heap_of {H : List Te} {i : Nat} (h : HB H i) (h1 : Ch H i) (h2 : Pr H i) : Heap H := by
  intro j h0 hl
  by_cases e : j = i
  · subst e; exact h2 h0
  · by_cases e2 : pa j = i
    · rw [e2]; exact h1 j h0 hl e2
    · exact h.up j h0 hl e e2
def swap (H : List Te) (i j : Nat) : List Te := (H.set i (at_ H j)).set j (at_ H i)
theorem swap_len (H : List Te) (i j : Nat) : (swap H i j).length = H.length := by simp [swap]
theorem at_swap {H : List Te} {i j k : Nat} (hi : i < H.length) (hj : j < H.length) : at_ (swap H i j) k = if k = j then at_ H i else if k = i then at_ H j else at_ H k := by
  unfold swap
  rw [at_set (by simpa using hj)]
  split
  · rfl
  · rw [at_set hi]
theorem swap_perm {H : List Te} {i j : Nat} (hi : i < H.length) (hj : j < H.length) : (swap H i j).Perm H := by
  unfold swap
  rw [at_get hi, at_get hj]
  exact List.set_set_perm hi hj
theorem le_trans {a b c : Te} (h1 : le a b) (h2 : le b c) : le a c := by unfold le at *; omega
theorem le_total (a b : Te) : le a b ∨ le b a := by unfold le; omega
theorem pa_lt {i : Nat} (h : 0 < i) : pa i < i := by unfold pa; omega
theorem up_step {H : List Te} {i : Nat} (h : HB H i) (h0 : 0 < i) (hi : i < H.length) (hn : ¬ le (at_ H (pa i)) (at_ H i)) : HB (swap H (pa i) i) (pa i) ∧ Ch (swap H (pa i) i) (pa i) := by
  have hp := pa_lt h0
  have hle : le (at_ H i) (at_ H (pa i)) := (le_total _ _).resolve_right hn
  have hpl : pa i < H.length := by omega
  refine ⟨⟨fun j j0 jl j1 j2 => ?_, fun g0 j j0 jl j1 => ?_⟩, fun j j0 jl j1 => ?_⟩
  · rw [swap_len] at jl
    rw [at_swap hpl hi, at_swap hpl hi]
    have hjp := pa_lt j0
    by_cases e1 : j = i
    · subst e1; exact absurd rfl j2
    · rw [if_neg e1, if_neg j1]
      by_cases e2 : pa j = i
      · rw [if_pos e2]; exact h.gp h0 j j0 jl e2
      · rw [if_neg e2, if_neg j2]; exact h.up j j0 jl e1 e2
  · rw [swap_len] at jl
    have hgp := pa_lt g0
    rw [at_swap hpl hi, at_swap hpl hi]
    rw [if_neg (by omega), if_neg (by omega)]
    have hup : le (at_ H (pa (pa i))) (at_ H (pa i)) := h.up (pa i) g0 hpl (by omega) (by omega)
    by_cases e1 : j = i
    · rw [if_pos e1]; exact hup
    · have := pa_lt j0
      rw [if_neg e1, if_neg (by omega)]
      have := h.up j j0 jl e1 (by omega)
      rw [j1] at this
      exact le_trans hup this
  · rw [swap_len] at jl
    rw [at_swap hpl hi, at_swap hpl hi, if_neg (by omega), if_pos rfl]
    by_cases e1 : j = i
    · rw [if_pos e1]; exact hle
    · have := pa_lt j0
      rw [if_neg e1, if_neg (by omega)]
      have := h.up j j0 jl e1 (by omega)
      rw [j1] at this
      exact le_trans hle this
theorem down_step {H : List Te} {i c : Nat} (h : HB H i) (hp : Pr H i) (hc0 : 0 < c) (hcl : c < H.length) (hpc : pa c = i) (hlt : le (at_ H c) (at_ H i)) (hb : ∀ j, 0 < j → j < H.length → pa j = i → le (at_ H c) (at_ H j)) :
    HB (swap H i c) c ∧ Pr (swap H i c) c := by
  have hic := pa_lt hc0
  rw [hpc] at hic
  have hil : i < H.length := by omega
  refine ⟨⟨fun j j0 jl j1 j2 => ?_, fun g0 j j0 jl j1 => ?_⟩, fun _ => ?_⟩
  · rw [swap_len] at jl
    rw [at_swap hil hcl, at_swap hil hcl, if_neg j2, if_neg j1]
    by_cases e1 : j = i
    · subst e1
      have := pa_lt j0
      rw [if_neg (by omega), if_pos rfl]
      exact h.gp j0 c hc0 hcl hpc
    · rw [if_neg e1]
      by_cases e2 : pa j = i
      · rw [if_pos e2]; exact hb j j0 jl e2
      · rw [if_neg e2]; exact h.up j j0 jl e1 e2
  · rw [swap_len] at jl
    have hj := pa_lt j0
    rw [at_swap hil hcl, at_swap hil hcl, hpc, if_neg (by omega), if_pos rfl, if_neg (by omega), if_neg (by omega)]
    have := h.up j j0 jl (by omega) (by omega)
    rw [j1] at this; exact this
  · rw [at_swap hil hcl, at_swap hil hcl, hpc, if_neg (by omega), if_pos rfl, if_pos rfl]
    exact hlt
/-- Where each key stands. -/
abbrev G := Int → Option Int
structure Cons (H : List Te) (g : G) : Prop where
  to : ∀ i, i < H.length → g (at_ H i).key = some (i : Int)
  of : ∀ k, g k ≠ none → ∃ i, i < H.length ∧ (at_ H i).key = k
theorem Cons.inj {H : List Te} {g : G} (h : Cons H g) {i j : Nat} (hi : i < H.length) (hj : j < H.length) (e : (at_ H i).key = (at_ H j).key) : i = j := by
  have h1 := h.to i hi
  rw [e, h.to j hj] at h1
  simp at h1; omega
theorem cons_swap {H : List Te} {g : G} {i j : Nat} (h : Cons H g) (hi : i < H.length) (hj : j < H.length) (hij : i ≠ j) : Cons (swap H i j) (upd (upd g (at_ H i).key (j : Int)) (at_ H j).key (i : Int)) := by
  have hne : (at_ H i).key ≠ (at_ H j).key := fun e => hij (h.inj hi hj e)
  refine ⟨fun k hk => ?_, fun k hk => ?_⟩
  · rw [swap_len] at hk
    rw [at_swap hi hj]
    unfold upd
    by_cases e1 : k = j
    · subst e1; rw [if_pos rfl, if_neg hne, if_pos rfl]
    · rw [if_neg e1]
      by_cases e2 : k = i
      · subst e2; rw [if_pos rfl, if_pos rfl]
      · rw [if_neg e2, if_neg fun e => e1 (h.inj hk hj e), if_neg fun e => e2 (h.inj hk hi e)]
        exact h.to k hk
  · unfold upd at hk
    rw [swap_len]
    by_cases e1 : k = (at_ H j).key
    · exact ⟨i, hi, by rw [at_swap hi hj, if_neg hij, if_pos rfl, e1]⟩
    · rw [if_neg e1] at hk
      by_cases e2 : k = (at_ H i).key
      · exact ⟨j, hj, by rw [at_swap hi hj, if_pos rfl, e2]⟩
      · rw [if_neg e2] at hk
        obtain ⟨q, hq, he⟩ := h.of k hk
        refine ⟨q, hq, ?_⟩
        rw [at_swap hi hj, if_neg fun e => e1 (by rw [← he, e]), if_neg fun e => e2 (by rw [← he, e])]
        exact he
end Go.Proofs.Ythpkkbmiockloaa
