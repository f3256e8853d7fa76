/- What a law's arguments are: read off what they read as. -/
import Derived.Test.YtlcbfahjejgjlaaSe
namespace Go.Jac
open Go Go.RowKit

/-- Cells that read as data of a type. -/
def Rd (P : Program) (w : World) (t : TypeId) (cs : List Value) : Prop :=
  ∃ (H : Type) (enc : TypeId × Value → H) (base : Nat) (sp : Nat → Bool) (held : Bool) (fuel : Nat) (x : DataW H × List MemPlace), DataW.trod enc P w base sp held fuel t cs = some x
section
variable {P : Program} {w : World} {t : TypeId} {cs : List Value}
theorem Rd.of {H : Type} {enc : TypeId × Value → H} {base : Nat} {sp : Nat → Bool} {held : Bool} {v : Value} {d : DataW H} {ps : List MemPlace} (h : DataW.Trod enc P w base sp held t v d ps) : Rd P w t v.cells.toList := by
  obtain ⟨fuel, h⟩ := h
  exact ⟨_, _, _, _, _, _, _, h⟩
theorem Rd.int {k : IntKind} (ht : P.underlying t = some (.int k)) (h : Rd P w t cs) : ∃ n, cs = [.int k n] ∧ (Lit.int k n).wf = true := by
  obtain ⟨_, _, _, _, _, _, _, h⟩ := h
  obtain ⟨n, e, _, hw⟩ := DataW.trod_int ht h
  exact ⟨n, e, hw⟩
theorem Rd.bool (ht : P.underlying t = some .bool) (h : Rd P w t cs) : ∃ b, cs = [.bool b] := by
  obtain ⟨_, _, _, _, _, _, _, h⟩ := h
  obtain ⟨n, e, _⟩ := DataW.trod_bool ht h
  exact ⟨n, e⟩
theorem Rd.string (ht : P.underlying t = some .string) (h : Rd P w t cs) : ∃ s : ByteArray, cs = [.string s] ∧ s.size ≤ maxLen := by
  obtain ⟨_, _, _, _, _, _, _, h⟩ := h
  obtain ⟨n, e, _, hw⟩ := DataW.trod_string ht h
  exact ⟨n, e, hw⟩
theorem Rd.struct {fs : Array Field} (ht : P.underlying t = some (.struct fs)) (h : Rd P w t cs) : cs.length = P.cellsOf t ∧ ∀ (i : Nat) (f : Field), fs[i]? = some f → Rd P w f.type ((cs.drop f.offset).take (P.cellsOf f.type)) := by
  obtain ⟨H, enc, base, sp, held, fuel, x, h⟩ := h
  obtain ⟨xs, m, rfl, _, hl, hn, hx⟩ := DataW.trod_struct ht h
  refine ⟨hl, fun i f hf => ?_⟩
  have hi : i < xs.length := by
    rw [hn]; exact (Array.getElem?_eq_some_iff.1 hf).1
  exact ⟨H, enc, base, sp, held, m, xs[i], (hx i f hf).trans (List.getElem?_eq_getElem hi)⟩
theorem cells?_get {base : Nat} {a : Addr} {n : Nat} {vs : List Value} (h : w.cells? base a n = some vs) : vs.length = n ∧ ∀ j x, vs[j]? = some x → w.cell? (a.add j) = some x := by
  unfold World.cells? at h
  split at h
  · have hl := mapM_some_length h
    rw [List.length_range] at hl
    refine ⟨hl, fun j x hx => ?_⟩
    have hj : j < n := by rw [← hl]; exact (List.getElem?_eq_some_iff.1 hx).1
    rw [mapM_some_get h j j (by simp [hj]), hx]
  · cases h
theorem Rd.slice {e : TypeId} (ht : P.underlying t = some (.slice e)) (h : Rd P w t cs) :
    cs = [.slice none 0 0] ∨ ∃ a len cap, cs = [.slice (some a) len cap] ∧ len ≤ cap ∧ cap ≤ maxLen ∧
      ∀ i, i < len → ∃ vs : List Value, vs.length = P.cellsOf e ∧ (∀ j x, vs[j]? = some x → w.cell? ((a.add (i * P.cellsOf e)).add j) = some x) ∧ Rd P w e vs := by
  obtain ⟨H, enc, base, sp, held, fuel, x, h⟩ := h
  rcases DataW.trod_slice ht h with ⟨e, _⟩ | ⟨a, len, cap, elems, rest, m, rfl, e, _, _, hl, hc, hn, hx, _⟩
  · exact .inl e
  · refine .inr ⟨a, len, cap, e, hl, hc, fun i hi => ?_⟩
    have := hx i hi
    rw [List.getElem?_eq_getElem (by rw [hn]; exact hi), Option.bind_eq_some_iff] at this
    obtain ⟨vs, h1, h2⟩ := this
    obtain ⟨h3, h4⟩ := cells?_get h1
    exact ⟨vs, h3, h4, H, enc, base, sp, held, m, _, h2⟩
theorem Rd.array {n : Nat} {e : TypeId} (ht : P.underlying t = some (.array n e)) (h : Rd P w t cs) : cs.length = P.cellsOf t ∧ ∀ i, i < n → Rd P w e ((cs.drop (i * P.cellsOf e)).take (P.cellsOf e)) := by
  obtain ⟨H, enc, base, sp, held, fuel, x, h⟩ := h
  obtain ⟨xs, m, rfl, _, hl, hn, hx⟩ := DataW.trod_array ht h
  refine ⟨hl, fun i hi => ⟨H, enc, base, sp, held, m, xs[i]'(by rw [hn]; exact hi), ?_⟩⟩
  rw [hx i hi]
  exact List.getElem?_eq_getElem _
end

/-! ### Old memory, wherever it stands in the list -/
theorem D.front {w0 w : World} {A : HP} : ∀ {L : List HP}, D w0 L w → A ∈ L → ∃ M, D w0 (A :: M) w
  | B :: L, d, h => by
    rcases List.mem_cons.1 h with rfl | h
    · exact ⟨L, d⟩
    · obtain ⟨i, hi, e⟩ := List.getElem_of_mem h
      obtain ⟨⟨h1, h2, s, b, l⟩, k⟩ := d
      have key : ∀ {L : List HP} {h : Hp} {A : HP}, Sat L h → A ∈ L → ∃ M, Sat (A :: M) h := by
        intro L
        induction L with
        | nil => intro h A _ hm; cases hm
        | cons C L ih =>
          intro h A s hm
          rcases List.mem_cons.1 hm with rfl | hm
          · exact ⟨L, s⟩
          · obtain ⟨h3, h4, s2, c, l2⟩ := s
            obtain ⟨M, l3⟩ := ih l2 hm
            exact ⟨C :: M, Sat.swap ⟨h3, h4, s2, c, l3⟩⟩
      obtain ⟨M, s'⟩ := key (L := B :: L) (h := hw w) ⟨h1, h2, s, b, l⟩ (List.mem_cons_of_mem _ h)
      exact ⟨M, s', k⟩
theorem D.oldc {w0 w : World} {L : List HP} (d : D w0 L w) (hm : Old w0 ∈ L) {p : Addr} {x : Value} (hx : w0.cell? p = some x) : w.cell? p = some x := by
  obtain ⟨M, d⟩ := d.front hm
  rw [← hx]
  refine d.old ?_
  unfold World.cell? at hx
  cases hb : w0.heap[p.block]? with
  | none => simp [hb] at hx
  | some o => exact (Array.getElem?_eq_some_iff.1 hb).1
section
variable {w0 w : World} {L : List HP} {K : Value → WP} {p : Addr}
theorem old_ld1 {v : Value} (d : D w0 L w) (hm : Old w0 ∈ L) (hv : w0.cell? p = some v) (k : K v w) : Ld1 (.pointer (some p)) K w := ⟨_, v, rfl, d.oldc hm hv, k⟩
theorem old_ldN {n : Nat} (vs : List Value) (d : D w0 L w) (hm : Old w0 ∈ L) (hl : vs.length = n) (hv : ∀ j x, vs[j]? = some x → w0.cell? (p.add j) = some x) (k : K (.agg vs.toArray) w) : LdN n (.pointer (some p)) K w :=
  ⟨_, vs, rfl, hl, fun j x hx => d.oldc hm (hv j x hx), k⟩
theorem old_ia {es len c : Nat} {k : IntKind} {i : Int} (h0 : 0 ≤ i) (h1 : i < (len : Int)) (hk : K (.pointer (some (p.add (i.toNat * es)))) w) : IA es (.slice (some p) len c) (.int k i) K w :=
  ⟨_, _, _, _, _, rfl, rfl, h0, h1, hk⟩
end
end Go.Jac
