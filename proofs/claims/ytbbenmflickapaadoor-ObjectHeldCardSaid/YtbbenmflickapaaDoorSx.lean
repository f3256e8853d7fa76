/- A row that may begin within its block, with its room: reading the first, leaving it out, appending. -/
import Derived.Test.YtbbenmflickapaaDoorSm
set_option maxRecDepth 100000
namespace Go.Jac
open Go
def Rx (elem es : Nat) (v : Value) (n : Nat) (cs : List Value) : HP := fun h =>
  (v = .slice none 0 0 ∧ n = 0 ∧ cs = []) ∨
  ∃ b o cap pre junk, v = .slice (some ⟨b, o, none⟩) n cap ∧ n ≤ cap ∧ cs.length = n * es ∧ pre.length = o ∧ o + cap * es ≤ (pre ++ cs ++ junk).length ∧ h b = some (.cells (pre ++ cs ++ junk).toArray elem (0, 0))
section
variable {P : Program} {w0 w : World} {L : List HP} {K : Value → WP} {elem es bytes n m : Nat} {sv x : Value} {cs news : List Value} {zero : Array Value}
variable {α : Type} {f : α → List Value} {S : List α}
theorem Rx.of (d : D w0 (Rw elem es sv n cs :: L) w) : D w0 (Rx elem es sv n cs :: L) w :=
  d.hd fun h hr => by
    rcases hr with ⟨rfl, rfl, rfl⟩ | ⟨b, cap, junk, rfl, hle, hl, hl2, hb⟩
    · exact .inl ⟨rfl, rfl, rfl⟩
    · exact .inr ⟨b, 0, cap, [], junk, rfl, hle, hl, rfl, by simp only [List.nil_append]; omega, by simpa using hb⟩
theorem Rx.shape (d : D w0 (Rx elem es sv n cs :: L) w) : ∃ q c, sv = .slice q n c ∧ n ≤ c := by
  obtain ⟨⟨h1, h2, s, hr, l⟩, _⟩ := d
  rcases hr with ⟨rfl, rfl, rfl⟩ | ⟨b, o, cap, pre, junk, rfl, hle, _⟩
  · exact ⟨_, _, rfl, Nat.le_refl _⟩
  · exact ⟨_, _, rfl, hle⟩
/-- The first element, of one cell. -/
theorem rx_hd {v : Value} {r : List Value} (d : D w0 (Rx elem 1 sv (n + 1) (v :: r) :: L) w) (k : K v w) : IA 1 sv (.int .i64 0) (fun p => Ld1 p fun u => K u) w := by
  obtain ⟨⟨h1, h2, s, hr, l⟩, _⟩ := d
  rcases hr with ⟨_, h0, _⟩ | ⟨b, o, cap, pre, junk, rfl, hle, hl, ho, hc, hb⟩
  · omega
  · refine ia_ok (by omega) (by omega) ?_
    have g : hw w b = some (.cells (pre ++ (v :: r) ++ junk).toArray elem (0, 0)) := s.l hb
    refine ld1 g ?_ k
    show (pre ++ (v :: r) ++ junk)[o + 0 * 1]? = _
    rw [List.append_assoc, List.getElem?_append_right (by omega), show o + 0 * 1 - pre.length = 0 by omega]
    rfl
/-- All but the first. -/
theorem rx_tail {v : Value} {r : List Value} (d : D w0 (Rx elem 1 sv (n + 1) (v :: r) :: L) w) (k : ∀ sv', D w0 (Rx elem 1 sv' n r :: L) w → K sv' w) : SlC 1 sv (some (.int .i64 1)) none K w := by
  obtain ⟨⟨h1, h2, s, hr, l⟩, kp⟩ := d
  rcases hr with ⟨_, h0, _⟩ | ⟨b, o, cap, pre, junk, rfl, hle, hl, ho, hc, hb⟩
  · omega
  · refine slc_ok 1 (n + 1) rfl ⟨_, rfl, by omega⟩ rfl ?_
    refine k _ ⟨⟨h1, h2, s, .inr ?_, l⟩, kp⟩
    have hrl : r.length = n := by simpa using hl
    by_cases e : cap = 1
    · have hn : n = 0 := by omega
      subst hn
      have hr0 : r = [] := List.length_eq_zero_iff.1 hrl
      subst hr0
      rw [if_pos e]
      exact ⟨b, o, cap - 1, pre, [v] ++ junk, by simp, by omega, by simp, ho, by simp at hc ⊢; omega, by simpa using hb⟩
    · rw [if_neg e]
      refine ⟨b, o + 1, cap - 1, pre ++ [v], junk, ?_, by omega, by omega, by simp [ho], by simp at hc ⊢; omega, by simpa using hb⟩
      simp [add_of]
theorem rx_app (d : D w0 (Rx elem es sv n cs :: L) w) (hx : SrcV es x m news w) (hz : zero.size = es) (hm : 0 < m) (hb : (n + m) * bytes ≤ 140737488355328) (h63 : n + m < 4611686018427387904)
    (hx2 : ∀ v ∈ news, v.oneCell' = true)
    (k : ∀ sv' w', D w0 (Rx elem es sv' (n + m) (cs ++ news) :: L) w' → K sv' w') : AppC elem es bytes zero sv x K w := by
  have hnl : news.length = m * es := by
    rcases hx with ⟨a, c, rfl, hl, hc, h1⟩ | ⟨c, rfl, rfl, rfl⟩
    · exact hl
    · omega
  obtain ⟨⟨h1, h2, s1, hr, l⟩, kp⟩ := d
  rcases hr with ⟨rfl, rfl, rfl⟩ | ⟨b, o, cap, pre, junk, rfl, hle, hl, ho, hc, hbk⟩
  · have d0 : D w0 (Rw elem es (.slice none 0 0) 0 [] :: L) w := ⟨⟨h1, h2, s1, .inl ⟨rfl, rfl, rfl⟩, l⟩, kp⟩
    exact d_app d0 hx hz hm hb h63 hx2 fun sv' w' d' => k sv' w' (Rx.of d')
  · have g : hw w b = some (.cells (pre ++ cs ++ junk).toArray elem (0, 0)) := s1.l hbk
    by_cases hroom : n + m ≤ cap
    · have hcap : (n + m) * es ≤ cap * es := Nat.mul_le_mul_right _ hroom
      have hfit : o + n * es + news.length ≤ (pre ++ cs ++ junk).length := by
        rw [hnl]; rw [Nat.add_mul] at hcap; omega
      refine ⟨_, n, cap, m, news, rfl, hx, .inr (.inl ⟨b, o, rfl, hroom, fun j hj => ?_, fun j hj => free_of g _, k _ _ ⟨?_, kp.trans (Kp.setCells _ _ _ _)⟩⟩)⟩
      · rw [cell_of g, List.getElem?_eq_getElem (by omega)]; rfl
      · rw [hw_setCells news (pre ++ cs ++ junk) _ w g]
        have e : splice (pre ++ cs ++ junk) (o + n * es) news = pre ++ (cs ++ news) ++ junk.drop news.length := by
          have hpl : (pre ++ cs).length = o + n * es := by rw [List.length_append, ho, hl]
          rw [splice_eq _ _ _ hfit, ← hpl, List.take_left, List.drop_append]
          simp
        have s2 : Sat (cel b elem (splice (pre ++ cs ++ junk) (o + n * es) news) :: L) ((hw w).set b (.cells (splice (pre ++ cs ++ junk) (o + n * es) news).toArray elem (0, 0))) := Sat.set (o := .cells (pre ++ cs ++ junk).toArray elem (0, 0)) ⟨h1, h2, s1, hbk, l⟩
        have hlen : (splice (pre ++ cs ++ junk) (o + n * es) news).length = (pre ++ cs ++ junk).length := splice_length _ _ _
        rw [e] at s2 hlen ⊢
        refine s2.hd fun _ a => .inr ⟨b, o, cap, pre, junk.drop news.length, rfl, hroom, ?_, ho, by rw [hlen]; exact hc, a⟩
        rw [List.length_append, hl, hnl, Nat.add_mul]
    · refine ⟨_, n, cap, m, news, rfl, hx, .inr (.inr ⟨cs, .some _ rfl hl fun j u hu => ?_, by omega, by omega, growslice_fits (by omega) hb, fun c hc => k _ _ ⟨?_, kp.trans ((Kp.drew w).trans (Kp.alloc _ _))⟩⟩)⟩
      · have hj := (List.getElem?_eq_some_iff.1 hu).1
        rw [add_of, cell_of g, List.append_assoc, List.getElem?_append_right (by omega), show o + j - pre.length = j by omega, List.getElem?_append_left hj]; exact hu
      · have e : ((cs ++ news).toArray ++ Builtin.zeroCells zero (c - (n + m))) = ((cs ++ news) ++ (Builtin.zeroCells zero (c - (n + m))).toList).toArray := by
          apply Array.ext'; simp
        rw [e, hw_alloc]
        have s : Sat (pr True :: L) (hw w) := ⟨h1, h2, s1, trivial, l⟩
        have s' : Sat (cel w.drew.heap.size elem ((cs ++ news) ++ (Builtin.zeroCells zero (c - (n + m))).toList) :: pr True :: L) ((hw w.drew).set w.drew.heap.size (.cells ((cs ++ news) ++ (Builtin.zeroCells zero (c - (n + m))).toList).toArray elem)) := Sat.new (hw_none w.drew) s
        refine Sat.tail2 (s'.hd fun _ a => .inr ⟨_, 0, c, [], (Builtin.zeroCells zero (c - (n + m))).toList, rfl, hc, ?_, rfl, ?_, by rw [List.nil_append]; exact a⟩)
        · rw [List.length_append, hl, hnl, Nat.add_mul]
        · simp only [List.nil_append, List.length_append, hl, hnl, Array.length_toList, size_zeroCells, hz]
          rw [← Nat.add_mul, ← Nat.add_mul, Nat.zero_add]
          exact Nat.mul_le_mul_right _ (by omega)
end
end Go.Jac
