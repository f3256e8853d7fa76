/- Regions: what is mapped at a number; the least place. -/
import Derived.Test.YtplllehpaimpiaaGf
set_option maxRecDepth 100000
set_option maxHeartbeats 4000000
namespace Go.Proofs.Ytplllehpaimpiaa
open Go Go.Jac
def cov (x : Pc) (t : Int) : Prop := x.a ≤ t ∧ t < x.a + x.n
section
variable {size most : Int} {S : List Pc} {x y : Pc} {t m : Int}
theorem ov1 (hx : 0 ≤ x.a ∧ 0 < x.n) (ht : 0 ≤ t) : ovB x.a x.n t 1 = true ↔ cov x t := by
  unfold ovB cov
  rw [decide_eq_true_eq]
  omega
theorem fnd_none (h : Rok size most S) (ht : 0 ≤ t) : fnd S t = none ↔ ∀ x ∈ S, ¬ cov x t := by
  unfold fnd
  rw [List.find?_eq_none]
  constructor
  · intro h2 x hx hc
    exact h2 x hx ((ov1 ⟨(h.all x hx).a0, (h.all x hx).n0⟩ ht).2 hc)
  · intro h2 x hx hc
    exact h2 x hx ((ov1 ⟨(h.all x hx).a0, (h.all x hx).n0⟩ ht).1 hc)
theorem cov_one (h : Rok size most S) (hx : x ∈ S) (hy : y ∈ S) (h1 : cov x t) (h2 : cov y t) : x = y := by
  obtain ⟨i, hi, rfl⟩ := List.getElem_of_mem hx
  obtain ⟨j, hj, rfl⟩ := List.getElem_of_mem hy
  unfold cov at h1 h2
  rcases Nat.lt_trichotomy i j with hij | hij | hij
  · have := up_a h hi hj hij
    omega
  · subst hij; rfl
  · have := up_a h hj hi hij
    omega
theorem fnd_some (h : Rok size most S) (ht : 0 ≤ t) : fnd S t = some x ↔ x ∈ S ∧ cov x t := by
  constructor
  · intro h2
    have hm := List.mem_of_find?_eq_some h2
    exact ⟨hm, (ov1 ⟨(h.all x hm).a0, (h.all x hm).n0⟩ ht).1 (by simpa using List.find?_some h2)⟩
  · rintro ⟨hm, hc⟩
    cases h2 : fnd S t with
    | none => exact absurd hc ((fnd_none h ht).1 h2 x hm)
    | some y =>
      have hm2 := List.mem_of_find?_eq_some h2
      have hc2 := (ov1 ⟨(h.all y hm2).a0, (h.all y hm2).n0⟩ ht).1 (by simpa using List.find?_some h2)
      rw [cov_one h hm hm2 hc hc2]
/-- So many fit there. -/
def Fits (size m : Int) (S : List Pc) (s : Int) : Prop := 0 ≤ s ∧ s + m ≤ size ∧ ∀ x ∈ S, x.a + x.n ≤ s ∨ s + m ≤ x.a
theorem place_spec (h : Rok size most S) (hm : 0 < m) : ∀ (R P : List Pc) (a : Int), S = P ++ R → 0 ≤ a → a ≤ size → a % 64 = 0 → (∀ x ∈ P, x.a + x.n ≤ a) → (∀ s, Fits size m S s → a ≤ s) →
    (∀ c, (placeG m R a).1 = some c → Fits size m S c ∧ c % 64 = 0 ∧ ∀ s, Fits size m S s → c ≤ s) ∧
    ((placeG m R a).1 = none → (∀ x ∈ S, x.a + x.n ≤ (placeG m R a).2) ∧ 0 ≤ (placeG m R a).2 ∧ (placeG m R a).2 ≤ size ∧ (placeG m R a).2 % 64 = 0 ∧ ∀ s, Fits size m S s → (placeG m R a).2 ≤ s)
  | [], P, a, hS, h0, hsz, h64, hP, hF => by
    refine ⟨fun c hc => (by cases hc), fun _ => ⟨fun x hx => hP x (by rw [hS, List.append_nil] at hx; exact hx), h0, hsz, h64, hF⟩⟩
  | x :: r, P, a, hS, h0, hsz, h64, hP, hF => by
    have hxS : x ∈ S := by rw [hS]; simp
    have hp := h.all x hxS
    have g1 := hp.n0
    have g2 := hp.en
    have g3 := hp.am
    have g4 := hp.nm
    have g5 := hp.a0
    have hup := h.up
    rw [hS, List.pairwise_append, List.pairwise_cons] at hup
    unfold placeG
    by_cases hg : m ≤ x.a - a
    · rw [if_pos hg]
      refine ⟨fun c hc => ?_, fun hc => by cases hc⟩
      cases hc
      refine ⟨⟨h0, by omega, fun y hy => ?_⟩, h64, hF⟩
      rw [hS] at hy
      rcases List.mem_append.1 hy with hy | hy
      · exact .inl (hP y hy)
      · rcases List.mem_cons.1 hy with rfl | hy
        · exact .inr (by omega)
        · have := hup.2.1.1 y hy
          exact .inr (by omega)
    · rw [if_neg hg]
      refine place_spec h hm r (P ++ [x]) (x.a + x.n) (by rw [hS]; simp) (by omega) (by omega) (by omega) (fun y hy => ?_) (fun s hs => ?_)
      · rcases List.mem_append.1 hy with hy | hy
        · have := hup.2.2 y hy x (by simp)
          omega
        · rw [List.mem_singleton.1 hy]; exact Int.le_refl _
      · have h1 := hF s hs
        rcases hs.2.2 x hxS with h2 | h2
        · exact h2
        · omega
/-- Pages that are free, from one on. -/
def Wp (N q : Int) (F : Int → Prop) (s : Int) : Prop := 0 ≤ s ∧ s + q ≤ N ∧ ∀ j, s ≤ j → j < s + q → F j
theorem fits_pages (h : Rok size most S) (hs : size % 64 = 0) {s q : Int} (hq : 0 < q) : Fits size (64 * q) S (64 * s) ↔ Wp (size / 64) q (fun j => fnd S (64 * j) = none) s := by
  constructor
  · rintro ⟨h1, h2, h3⟩
    refine ⟨by omega, by omega, fun j hj1 hj2 => ?_⟩
    refine (fnd_none h (by omega)).2 ?_
    intro x hx hc
    unfold cov at hc
    rcases h3 x hx with h4 | h4 <;> omega
  · rintro ⟨h1, h2, h3⟩
    refine ⟨by omega, by omega, fun x hx => ?_⟩
    have hp := h.all x hx
    have g1 := hp.n0
    have g3 := hp.am
    have g4 := hp.nm
    have g5 := hp.a0
    rcases Int.lt_or_le (64 * s) (x.a + x.n) with h4 | h4
    · rcases Int.lt_or_le x.a (64 * s + 64 * q) with h5 | h5
      · exfalso
        rcases Int.le_total (x.a / 64) s with h6 | h6
        · have := (fnd_none h (by omega)).1 (h3 s (by omega) (by omega)) x hx
          exact this ⟨by omega, by omega⟩
        · have := (fnd_none h (by omega)).1 (h3 (x.a / 64) (by omega) (by omega)) x hx
          exact this ⟨by omega, by omega⟩
      · exact .inr h5
    · exact .inl h4
/-- What the search by pages knows behind k of them. -/
structure Run (N q : Int) (F : Int → Prop) (k run least : Int) : Prop where
  r0 : 0 ≤ run ∧ run ≤ k
  free : ∀ j, k - run ≤ j → j < k → F j
  most : run < k → ¬ F (k - run - 1)
  least : (least = -1 ∧ ∀ s, Wp N q F s → k < s + q) ∨ ∃ s, least = 64 * s ∧ Wp N q F s ∧ ∀ s', Wp N q F s' → s ≤ s'
theorem run0 {N q : Int} {F : Int → Prop} (hq : 0 < q) : Run N q F 0 0 (-1) := ⟨by omega, fun j h1 h2 => by omega, fun h => by omega, .inl ⟨rfl, fun s hs => by have := hs.1; omega⟩⟩
theorem run_busy {N q k run least : Int} {F : Int → Prop} (h : Run N q F k run least) (hF : ¬ F k) (hq : 0 < q) (hk : 0 ≤ k) : Run N q F (k + 1) 0 least := by
  refine ⟨by omega, fun j h1 h2 => by omega, fun _ => by rwa [show k + 1 - 0 - 1 = k by omega], ?_⟩
  rcases h.least with ⟨h1, h2⟩ | h1
  · refine .inl ⟨h1, fun s hs => ?_⟩
    have h3 := h2 s hs
    rcases Int.lt_or_le (k + 1) (s + q) with h4 | h4
    · exact h4
    · exact absurd (hs.2.2 k (by omega) (by omega)) hF
  · exact .inr h1
theorem run_free {N q k run least : Int} {F : Int → Prop} (h : Run N q F k run least) (hF : F k) (hq : 0 < q) (hkN : k < N) :
    (run + 1 = q → least < 0 → Run N q F (k + 1) (run + 1) (64 * (k + 1) - 64 * q)) ∧ (q < run + 1 → ¬ least < 0) ∧ ((run + 1 ≠ q ∨ ¬ least < 0) → Run N q F (k + 1) (run + 1) least) := by
  have hr := h.r0
  have hfree : ∀ j, k + 1 - (run + 1) ≤ j → j < k + 1 → F j := fun j h1 h2 => by
    rcases Int.lt_or_le j k with h3 | h3
    · exact h.free j (by omega) h3
    · rw [show j = k by omega]; exact hF
  have hmost : run + 1 < k + 1 → ¬ F (k + 1 - (run + 1) - 1) := fun h1 => by rw [show k + 1 - (run + 1) - 1 = k - run - 1 by omega]; exact h.most (by omega)
  refine ⟨fun h1 h2 => ⟨by omega, hfree, hmost, .inr ⟨k + 1 - q, by omega, ⟨by omega, by omega, fun j h3 h4 => hfree j (by omega) (by omega)⟩, fun s' hs' => ?_⟩⟩, fun h1 h2 => ?_, fun h1 => ⟨by omega, hfree, hmost, ?_⟩⟩
  · rcases h.least with ⟨_, h3⟩ | ⟨s, h3, h4, _⟩
    · have := h3 s' hs'
      omega
    · have := h4.1
      omega
  · rcases h.least with ⟨_, h3⟩ | ⟨s, h3, h4, _⟩
    · have := h3 (k - q) ⟨by omega, by omega, fun j h5 h6 => h.free j (by omega) (by omega)⟩
      omega
    · have := h4.1
      omega
  · rcases h.least with ⟨h2, h3⟩ | h2
    · refine .inl ⟨h2, fun s hs => ?_⟩
      have h4 := h3 s hs
      rcases Int.lt_or_le (k + 1) (s + q) with h5 | h5
      · exact h5
      · exfalso
        have hsq : s + q = k + 1 := by omega
        have hne : run + 1 ≠ q := by
          rcases h1 with h1 | h1
          · exact h1
          · omega
        rcases Int.lt_or_le (run + 1) q with h6 | h6
        · have := hs.1
          exact hmost (by omega) (hs.2.2 _ (by omega) (by omega))
        · have := h3 (k - q) ⟨by omega, by omega, fun j h7 h8 => h.free j (by omega) (by omega)⟩
          omega
    · exact .inr h2
end
end Go.Proofs.Ytplllehpaimpiaa
