/- Rows among a law's arguments, as lists. -/
import Derived.Test.YtcdkbkgpgemfgaaGreatDoorSl
import Derived.DataElems
namespace Go.Jac
open Go
/-- A row that was there when the walk began reads as a list. -/
def OldL {α : Type} (w0 : World) (es : Nat) (f : α → List Value) (v : Value) (l : List α) : Prop :=
  (v = .slice none 0 0 ∧ l = []) ∨ ∃ a c, v = .slice (some a) l.length c ∧ ∀ i (h : i < l.length), ∀ j x, (f l[i])[j]? = some x → w0.cell? ((a.add (i * es)).add j) = some x
section
variable {α : Type} {P : Program} {w0 w : World} {L : List HP} {K : Value → WP} {e es n : Nat} {v : Value} {f : α → List Value} {Q : α → Prop} {l : List α}
theorem OldSl.list (h : OldSl P w0 e es v n) (hr : ∀ vs, Rd P w0 e vs → ∃ x, vs = f x ∧ Q x) : ∃ l : List α, l.length = n ∧ (∀ x ∈ l, Q x) ∧ OldL w0 es f v l ∧ n ≤ maxLen := by
  obtain ⟨hn, ⟨rfl, rfl⟩ | ⟨a, c, rfl, hx⟩⟩ := h
  · exact ⟨[], rfl, by simp, .inl ⟨rfl, rfl⟩, hn⟩
  · have key : ∀ m, m ≤ n → ∃ l : List α, l.length = m ∧ (∀ x ∈ l, Q x) ∧ ∀ i (h : i < l.length), ∀ j x, (f l[i])[j]? = some x → w0.cell? ((a.add (i * es)).add j) = some x := by
      intro m
      induction m with
      | zero => intro _; exact ⟨[], rfl, by simp, fun i h => by simp at h⟩
      | succ m ih =>
        intro hm
        obtain ⟨l, h1, h2, h3⟩ := ih (by omega)
        obtain ⟨vs, _, h5, h6⟩ := hx m (by omega)
        obtain ⟨y, rfl, hq⟩ := hr vs h6
        refine ⟨l ++ [y], by simp [h1], fun x hx => ?_, fun i h j x hj => ?_⟩
        · rcases List.mem_append.1 hx with hx | hx
          · exact h2 x hx
          · rw [List.mem_singleton.1 hx]; exact hq
        · by_cases hi : i < l.length
          · rw [List.getElem_append_left hi] at hj
            exact h3 i hi j x hj
          · have e : i = m := by simp at h; omega
            subst e
            rw [List.getElem_append_right (by omega)] at hj
            simp only [h1, Nat.sub_self, List.getElem_cons_zero] at hj
            exact h5 j x hj
    obtain ⟨l, h1, h2, h3⟩ := key n (Nat.le_refl _)
    exact ⟨l, h1, h2, .inr ⟨a, c, by rw [h1], h3⟩, hn⟩
theorem OldL.shape (h : OldL w0 es f v l) : ∃ q c, v = .slice q l.length c := by
  rcases h with ⟨rfl, rfl⟩ | ⟨a, c, rfl, _⟩
  · exact ⟨none, 0, rfl⟩
  · exact ⟨_, _, rfl⟩
theorem OldL.len (h : OldL w0 es f v l) (k : K (.int .i64 l.length) w) : LenS v K w := by
  obtain ⟨q, c, rfl⟩ := h.shape
  exact k
theorem OldL.ia {i : Int} (h : OldL w0 es f v l) (h0 : 0 ≤ i) (h1 : i < l.length) (k : ∀ a, (∀ j x, (f (l[i.toNat]'(by omega)))[j]? = some x → w0.cell? (a.add j) = some x) → K (.pointer (some a)) w) : IA es v (.int .i64 i) K w := by
  rcases h with ⟨_, rfl⟩ | ⟨a, c, rfl, hx⟩
  · simp at h1; omega
  · exact old_ia h0 h1 (k _ (hx i.toNat (by omega)))
theorem OldL.src (h : OldL w0 es f v l) (hf : ∀ x, (f x).length = es) (hc : ∀ u ∈ l.flatMap f, u.oneCell' = true) (d : D w0 L w) (hm : Old w0 ∈ L) : SrcV es v l.length (l.flatMap f) w := by
  rcases h with ⟨rfl, rfl⟩ | ⟨a, c, rfl, hx⟩
  · exact .nil 0 rfl rfl rfl
  · refine .slice a c rfl (flat_len hf) (fun j u hu => ?_) hc
    have hj := (List.getElem?_eq_some_iff.1 hu).1
    rw [flat_len hf] at hj
    have hes : 0 < es := by
      rcases Nat.eq_zero_or_pos es with h | h
      · rw [h] at hj; simp at hj
      · exact h
    have hi : j / es < l.length := Nat.div_lt_of_lt_mul (by rw [Nat.mul_comm]; exact hj)
    obtain ⟨pre, post, e1, e2, _⟩ := flat_at hf hi
    have hjm : j = j / es * es + j % es := by rw [Nat.mul_comm]; exact (Nat.div_add_mod j es).symm
    have hu' : (f l[j / es])[j % es]? = some u := by
      have hlt : j % es < (f l[j / es]).length := by rw [hf]; exact Nat.mod_lt _ hes
      have e3 : j - pre.length = j % es := by rw [e2]; omega
      rw [e1, List.append_assoc, List.getElem?_append_right (by rw [e2]; omega), e3, List.getElem?_append_left hlt] at hu
      exact hu
    have := hx (j / es) hi (j % es) u hu'
    have e4 : (a.add (j / es * es)).add (j % es) = a.add j := by
      rw [Addr.add_add, ← hjm]
    rw [e4] at this
    exact d.oldc hm this
theorem _root_.Go.Addr.add_zero (a : Addr) : a.add 0 = a := rfl
theorem FA_a (p : Addr) (n : Nat) : FA (.pointer (some p)) n K w = K (.pointer (some (p.add n))) w := propext Iff.rfl
/-- A field of an element. -/
theorem OldL.fld {i : Int} {n : Nat} {x : Value} (h : OldL w0 es f v l) (h0 : 0 ≤ i) (h1 : i < l.length) (d : D w0 L w) (hm : Old w0 ∈ L) (hx : (f (l[i.toNat]'(by omega)))[n]? = some x) (k : K x w) :
    IA es v (.int .i64 i) (fun p => FA p n fun q => Ld1 q fun u => K u) w := by
  refine h.ia h0 h1 fun a ha => ?_
  rw [FA_a]
  exact old_ld1 d hm (ha n x hx) k
end
end Go.Jac
