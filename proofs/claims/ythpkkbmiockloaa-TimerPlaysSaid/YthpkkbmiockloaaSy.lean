/- A row that may begin within its block: reading, and leaving out the first. -/
import Derived.Test.YthpkkbmiockloaaSm
set_option maxRecDepth 100000
namespace Go.Jac
open Go
def Ro (elem es : Nat) (v : Value) (n : Nat) (cs : List Value) : HP := fun h =>
  (v = .slice none 0 0 ∧ n = 0 ∧ cs = []) ∨
  ∃ b o cap pre junk, v = .slice (some ⟨b, o, none⟩) n cap ∧ n ≤ cap ∧ cs.length = n * es ∧ pre.length = o ∧ h b = some (.cells (pre ++ cs ++ junk).toArray elem (0, 0))
section
variable {P : Program} {w0 w : World} {L : List HP} {K : Value → WP} {elem es n : Nat} {sv : Value} {cs : List Value}
variable {α : Type} {f : α → List Value} {S : List α}
theorem Ro.of (d : D w0 (Rw elem es sv n cs :: L) w) : D w0 (Ro elem es sv n cs :: L) w :=
  d.hd fun h hr => by
    rcases hr with ⟨rfl, rfl, rfl⟩ | ⟨b, cap, junk, rfl, hle, hl, hl2, hb⟩
    · exact .inl ⟨rfl, rfl, rfl⟩
    · exact .inr ⟨b, 0, cap, [], junk, rfl, hle, hl, rfl, by simpa using hb⟩
theorem Ro.shape (d : D w0 (Ro elem es sv n cs :: L) w) : ∃ q c, sv = .slice q n c ∧ n ≤ c := by
  obtain ⟨⟨h1, h2, s, hr, l⟩, _⟩ := d
  rcases hr with ⟨rfl, rfl, rfl⟩ | ⟨b, o, cap, pre, junk, rfl, hle, _⟩
  · exact ⟨_, _, rfl, Nat.le_refl _⟩
  · exact ⟨_, _, rfl, hle⟩
/-- Where an element lies. -/
theorem ro_at (hf : ∀ x, (f x).length = es) (d : D w0 (Ro elem es sv S.length (S.flatMap f) :: L) w) {i : Nat} (hi : i < S.length) :
    ∃ (b o cap : Nat) (cells : List Value), sv = .slice (some ⟨b, o, none⟩) S.length cap ∧ hw w b = some (.cells cells.toArray elem (0, 0)) ∧ ∀ j x, (f S[i])[j]? = some x → cells[o + i * es + j]? = some x := by
  obtain ⟨⟨h1, h2, s, hr, l⟩, _⟩ := d
  rcases hr with ⟨_, h0, _⟩ | ⟨b, o, cap, pre, junk, rfl, hle, hl, ho, hb⟩
  · omega
  · refine ⟨b, o, cap, _, rfl, s.l hb, fun j x hx => ?_⟩
    obtain ⟨p1, p2, e1, e2, _⟩ := flat_at hf (S := S) (i := i) hi
    have hj := (List.getElem?_eq_some_iff.1 hx).1
    rw [List.append_assoc, List.getElem?_append_right (by omega), e1, List.append_assoc, List.append_assoc, List.getElem?_append_right (by omega), show o + i * es + j - pre.length - p1.length = j by omega, List.getElem?_append_left hj]
    exact hx
theorem ro_fld (hf : ∀ x, (f x).length = es) (d : D w0 (Ro elem es sv S.length (S.flatMap f) :: L) w) {i j : Nat} {v : Value} (hi : i < S.length) (hv : (f S[i])[j]? = some v) (k : K v w) : IA es sv (.int .i64 i) (fun p => FA p j fun q => Ld1 q fun u => K u) w := by
  obtain ⟨b, o, cap, cells, rfl, g, hc⟩ := ro_at hf d hi
  refine ia_ok (by omega) (by omega) ?_
  rw [FA_p, Int.toNat_natCast]
  exact ld1 g (hc j v hv) k
theorem ro_elN (hf : ∀ x, (f x).length = es) (d : D w0 (Ro elem es sv S.length (S.flatMap f) :: L) w) {i : Nat} (hi : i < S.length) (k : K (.agg (f S[i]).toArray) w) : IA es sv (.int .i64 i) (fun p => LdN es p fun u => K u) w := by
  obtain ⟨b, o, cap, cells, rfl, g, hc⟩ := ro_at hf d hi
  refine ia_ok (by omega) (by omega) ?_
  rw [Int.toNat_natCast]
  exact ldN g (f S[i]) (hf _) hc k
theorem qiar {I : WP} {B : Value → WP} {b o c m n : Nat} {k : IntKind} (hn : n < m) (kk : B (.pointer (some ⟨b, o + n * es, none⟩)) w) : QE I (fun KK => IA es (.slice (some ⟨b, o, none⟩) m c) (.int k (n : Int)) fun v => KK v) B w :=
  qe _ (fun _ _ => ia_ok (by omega) (by omega) ⟨by simp, rfl⟩) kk
theorem qro {B : Value → WP} {b o c m n j : Nat} {v : Value} (i : In (Ro elem es (.slice (some ⟨b, o, none⟩) m c) S.length (S.flatMap f)) L) (hf : ∀ x, (f x).length = es) (hn : n < S.length) (hv : (f S[n])[j]? = some v) (k : B v w) : QE (D w0 L) (fun KK => Ld1 (.pointer (some ⟨b, o + n * es + j, none⟩)) fun v => KK v) B w :=
  qe _ (fun w' d => by
    obtain ⟨M, h⟩ := i.front
    obtain ⟨b', o', cap, cs, e, g, hc⟩ := ro_at hf (L := M) ⟨h _ d.1, d.2⟩ hn
    injection e with e1 e2 e3
    injection e1 with e1
    injection e1 with e1 e4
    subst e1 e4
    exact ld1 g (hc j v hv) ⟨rfl, rfl⟩) k
/-- All but the first. -/
theorem ro_tail {x : α} {R : List α} (hf : ∀ x, (f x).length = es) (d : D w0 (Ro elem es sv (x :: R).length ((x :: R).flatMap f) :: L) w)
    (k : ∀ sv', D w0 (Ro elem es sv' R.length (R.flatMap f) :: L) w → K sv' w) : SlC es sv (some (.int .i64 1)) none K w := by
  obtain ⟨⟨h1, h2, s, hr, l⟩, kp⟩ := d
  rcases hr with ⟨_, h0, _⟩ | ⟨b, o, cap, pre, junk, rfl, hle, hl, ho, hb⟩
  · simp at h0
  · rw [List.length_cons] at hle
    refine slc_ok 1 (x :: R).length rfl ⟨_, rfl, by simp⟩ rfl ?_
    refine k _ ⟨⟨h1, h2, s, .inr ?_, l⟩, kp⟩
    have hcells : pre ++ (x :: R).flatMap f ++ junk = (pre ++ f x) ++ R.flatMap f ++ junk := by simp
    rw [hcells] at hb
    by_cases e : cap = 1
    · have hR : R = [] := List.length_eq_zero_iff.1 (by omega)
      subst hR
      rw [if_pos e]
      exact ⟨b, o, cap - 1, pre, f x ++ junk, by simp, by simp, by simp, ho, by simpa using hb⟩
    · rw [if_neg e]
      refine ⟨b, o + es, cap - 1, pre ++ f x, junk, ?_, by omega, flat_len hf, by rw [List.length_append, ho, hf], hb⟩
      simp [add_of]
end
end Go.Jac
