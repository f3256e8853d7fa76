/- Handles: the law of taking all or none. -/
import Derived.Test.YtgcnebacjkpfmaaHn
set_option maxRecDepth 100000
namespace Go.Proofs.Ytgcnebacjkpfmaa
open Go Go.Jac
/-- The numbers of an argument. -/
theorem osl_ints {w0 : World} {v : Value} {n : Nat} (h : OldSl Try.prog w0 3 1 v n) : ∃ l : List Int, l.length = n ∧ (∀ k ∈ l, I64 k) ∧ ∀ (i : Nat) (hi : i < l.length), ∃ a, (∀ (K : Value → WP) (w : World), K (.pointer (some a)) w → IA 1 v (.int .i64 i) K w) ∧ w0.cell? (a.add 0) = some (.int .i64 l[i]) := by
  have key : ∀ i : Fin n, ∃ x : Int, I64 x ∧ ∃ a, (∀ (K : Value → WP) (w : World), K (.pointer (some a)) w → IA 1 v (.int .i64 (i.val : Int)) K w) ∧ w0.cell? (a.add 0) = some (.int .i64 x) := by
    intro i
    obtain ⟨a, hia, vs, hl, hc, hr⟩ := h.elem (i := ((i.val : Nat) : Int)) (by omega) (by have := i.isLt; omega)
    match vs, hl with
    | [c], _ =>
      obtain ⟨x, e, hw⟩ := hr.int Try.underlying3
      cases e
      exact ⟨x, I64.of_wf hw, a, hia, hc 0 _ rfl⟩
  obtain ⟨f, hf⟩ := Classical.axiomOfChoice key
  refine ⟨List.ofFn f, by simp, fun k hk => ?_, fun i hi => ?_⟩
  · obtain ⟨i, rfl⟩ := List.mem_ofFn.1 hk
    exact (hf i).1
  · have hi' : i < n := by simpa using hi
    obtain ⟨_, a, h1, h2⟩ := hf ⟨i, hi'⟩
    exact ⟨a, h1, by simpa using h2⟩
theorem madeInts (n : Nat) : (madeCells #[.int .i64 0] n).toList = ints (List.replicate n 0) := by
  apply List.ext_getElem
  · simp [madeCells, ints]
  · intro i h1 h2
    simp [madeCells, ints, Nat.mod_one]
theorem d_mk {w0 w : World} {L : List HP} {K : Value → WP} {n : Nat} (hn : n ≤ 65536) (d : D w0 L w) (k : ∀ sv w', D w0 (Rw 3 1 sv n (ints (List.replicate n 0)) :: L) w' → K sv w') : MkSC 3 1 8 #[.int .i64 0] (.int .i64 n) (.int .i64 n) K w := by
  refine ⟨.i64, .i64, n, n, rfl, rfl, by omega, by omega, by omega, by omega, ?_⟩
  simp only [Int.toNat_natCast, Nat.mul_one]
  refine k _ _ ?_
  have e : madeCells #[.int .i64 0] n = (ints (List.replicate n 0) ++ []).toArray := by
    apply Array.ext'
    rw [madeInts]; simp
  rw [e]
  have hl : (ints (List.replicate n (0 : Int))).length = n := by simp [ints]
  refine ⟨?_, d.2.trans (Kp.alloc _ _)⟩
  rw [hw_alloc]
  exact Rw.mk (Sat.new (hw_none w) d.1) (Nat.le_refl _) (by rw [hl]; simp) (by rw [List.append_nil, hl]; simp)
theorem allAdd_ok {w0 w : World} {L : List HP} {K : Value → WP} {b i : Nat} (hi : i < 60) (d : D w0 (Tb b 64 (rowSq i) :: L) w) (k : ∀ v w', D w0 (Tb b 64 (rowSq (i + 1)) :: L) w' → K v w') :
    FnV pg (.func (.func 14) #[] #[]) #[.pointer (some ⟨b, 0, none⟩), .agg #[.int .i64 i, .int .i64 0, .int .i64 0], .int .i64 ((i : Int) * i)] K w := by
  have hlen := rowSq_len i
  have hne := rowSq_ne (i := i) (by omega)
  refine call_of (fun _ _ => rfl) (Add_ok (o := i) (kd := 0) (r := 0) rfl ⟨by rw [hlen]; omega, by decide⟩ (by rw [cnt_all hne, hlen]; omega) d fun w4 d5 => k _ _ ?_)
  have hf : fre (rowSq i) = i := by rw [fre_all hne, hlen]
  have hS : adS (rowSq i) ⟨hval i ((i : Int) * i), i, 0, 0⟩ = rowSq (i + 1) := by
    rw [rowSq_succ]; unfold adS; rw [if_neg (by rw [hf, hlen]; omega)]
  rw [hf, hS] at d5
  exact d5
/-- How often each place stands in the list. -/
def cns (n : Nat) (l : List Int) : List Int := (List.range n).map fun (k : Nat) => (l.count (k : Int) : Int)
theorem cns_len (n : Nat) (l : List Int) : (cns n l).length = n := by simp [cns]
theorem cns_get {n : Nat} {l : List Int} {k : Nat} (h : k < (cns n l).length) : (cns n l)[k] = (l.count (k : Int) : Int) := by simp [cns]
theorem cns_snoc {n : Nat} {l : List Int} {k : Nat} (hk : k < n) : cns n (l ++ [(k : Int)]) = (cns n l).set k ((l.count (k : Int) : Int) + 1) := by
  apply List.ext_getElem
  · simp [cns]
  · intro j h1 h2
    rw [cns_get, List.getElem_set, List.count_append]
    by_cases e : k = j
    · subst e; rw [if_pos rfl]; simp
    · rw [if_neg e, cns_get, List.count_singleton]
      have : (k : Int) ≠ (j : Int) := by omega
      simp [this]
theorem cns_out {n : Nat} {l : List Int} {k : Int} (hk : ¬ (0 ≤ k ∧ k < n)) : cns n (l ++ [k]) = cns n l := by
  apply List.ext_getElem
  · simp [cns]
  · intro j h1 h2
    have hj : j < n := by simpa [cns] using h1
    rw [cns_get, cns_get, List.count_append, List.count_singleton]
    have : k ≠ (j : Int) := by omega
    simp [this]
end Go.Proofs.Ytgcnebacjkpfmaa
