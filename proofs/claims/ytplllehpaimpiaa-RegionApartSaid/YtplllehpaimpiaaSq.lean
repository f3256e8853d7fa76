/- slices.SortFunc over a row of records: what the kit's contract says, of the parts of memory. -/
import Derived.Test.YtplllehpaimpiaaSn
import Derived.Shelf.SlSortCmp.WholeK
import Derived.Shelf.SlSortCmp.NoneTotal
set_option maxRecDepth 100000
namespace Go.Jac
open Go Go.Proofs Go.Sort Go.Shelf
theorem Sat.ext : ∀ {L : List HP} {h h' : Hp}, Sat L h → (∀ b o, h b = some o → h' b = some o) → Sat L h'
  | [], _, _, _, _ => trivial
  | A :: L, h, h', s, g => by
    obtain ⟨h1, h2, s1, a, l⟩ := s
    refine ⟨h1, fun b => if (h1 b).isSome then none else h' b, fun b => ?_, a, Sat.ext l fun b o hb => ?_⟩
    · cases hb : h1 b with
      | none => left; simp [hb]
      | some o => right; exact ⟨by simp [hb], g b o (s1.l hb)⟩
    · have : h1 b = none := s1.comm.off hb
      simp only [this, Option.isSome_none, Bool.false_eq_true, if_false]
      exact g b o (s1.r hb)
theorem grown_of {a b : World} (h1 : b.os = a.os) (h2 : b.tape = a.tape) (h3 : b.output = a.output) (h4 : a.drawn ≤ b.drawn) (h5 : a.heap.size ≤ b.heap.size) (h6 : ∀ i, i < a.heap.size → b.heap[i]? = a.heap[i]?) :
    ∃ q os, b = grow (a.drewN q) os := by
  refine ⟨b.drawn - a.drawn, b.heap.extract a.heap.size b.heap.size, ?_⟩
  have hh : b.heap = a.heap ++ b.heap.extract a.heap.size b.heap.size := by
    apply Array.ext_getElem?
    intro i
    rw [Array.getElem?_append]
    split
    · rename_i hi; exact h6 i hi
    · rename_i hi
      rw [Array.getElem?_extract]
      split
      · congr 1; omega
      · rw [Array.getElem?_eq_none (by omega)]
  have hd : b.drawn = a.drawn + (b.drawn - a.drawn) := by omega
  cases a; cases b
  simp only [grow, World.drewN] at *
  subst h1 h2 h3
  rw [← hd, ← hh]
theorem D.grown {w0 w : World} {L : List HP} (d : D w0 (Old w0 :: L) w) : ∃ q os, w = grow (w0.drewN q) os :=
  have hb := d.below
  grown_of hb.os hb.tape hb.output d.2.drawn hb.size hb.block
section
variable {α : Type} [Inhabited α] {f : α → List Value} {es : Nat}
theorem flatK_get (hf : ∀ x, (f x).length = es) {S : List α} {j : Nat} (h : j < S.length * es) : (S.flatMap f)[j]? = some ((flatK f es S.toArray)[j]!) := by
  have he : 0 < es := by rcases Nat.eq_zero_or_pos es with h0 | h0; · rw [h0] at h; omega
                         · exact h0
  have hi : j / es < S.length := Nat.div_lt_of_lt_mul (by rwa [Nat.mul_comm] at h)
  have hm : j % es < es := Nat.mod_lt _ he
  rw [get_flatK _ _ _ _ (by simpa using h)]
  obtain ⟨pre, post, e1, e2, -⟩ := flat_at hf hi
  have hj : j = pre.length + j % es := by rw [e2, Nat.mul_comm]; exact (Nat.div_add_mod j es).symm
  have hl : j % es < (f S[j / es]).length := by rw [hf]; exact hm
  have hs : j - pre.length = j % es := by omega
  rw [e1, List.append_assoc, List.getElem?_append_right (by omega), hs, List.getElem?_append_left hl, List.getElem?_eq_getElem hl]
  congr 1
  rw [getElem!_pos S.toArray (j / es) (by simpa using hi), List.getElem_toArray]
  exact (getElem!_pos (f S[j / es]) (j % es) hl).symm
theorem flatK_list (hf : ∀ x, (f x).length = es) (S : List α) : (flatK f es S.toArray) = (S.flatMap f).toArray := by
  apply Array.ext_getElem?
  intro j
  by_cases h : j < S.length * es
  · rw [show (S.flatMap f).toArray[j]? = (S.flatMap f)[j]? from List.getElem?_toArray .., flatK_get hf h, getElem!_pos _ _ (by simpa using h), Array.getElem?_eq_getElem]
  · rw [Array.getElem?_eq_none (by simp; omega), Array.getElem?_eq_none (by rw [List.size_toArray, flat_len hf]; omega)]
theorem putCells_list {A B J : List Value} (h : B.length = A.length) : putCells id 0 A.toArray (B ++ J).toArray = (A ++ J).toArray := by
  apply Array.ext_getElem?
  intro j
  unfold putCells
  rw [Array.getElem?_mapIdx, List.getElem?_toArray, List.getElem?_toArray, List.size_toArray]
  by_cases hj : j < A.length
  · rw [List.getElem?_append_left (by omega), List.getElem?_append_left hj, List.getElem?_eq_getElem (by omega), Option.map_some, if_pos ⟨by omega, by omega⟩, Nat.sub_zero, List.getElem?_eq_getElem hj]
    congr 1
    rw [getElem!_pos A.toArray j (by simpa using hj)]
    simp
  · rw [List.getElem?_append_right (by omega), List.getElem?_append_right (by omega), h]
    cases hx : J[j - A.length]? with
    | none => rfl
    | some x => simp [hj]
variable {P : Program} {ρ : Ren} {w0 w : World} {L : List HP} {K : Value → WP} {elem : Nat} {sv : Value} {S : List α}
theorem sort_k (SL : SlLaysF0.n6 P ρ) (aE : ∀ w, (isAgg (ρ.t 24)).run P w = .ok true w) (zE : ∀ w, (Go.sizeOf (ρ.t 24)).run P w = .ok es w) (hf : ∀ x, (f x).length = es) (h1 : ∀ x, ∀ v ∈ f x, v.oneCell' = true) {cf : α → α → Int} (hO : SWO (ltOf cf)) {g : Nat} (eg : ∀ args w, (callFunc g args).run P w = .ok (.enter g args) w)
    (hc : ∀ (w : World) (x y : α) (K : Value → WP), (∀ w', D w [Old w] w' → K (.int .i64 (cf x y)) w') → Cl P g #[.agg (f x).toArray, .agg (f y).toArray] K w) (hsz : S.length < 4611686018427387904)
    (d : D w0 (Rw elem es sv S.length (S.flatMap f) :: L) w) (k : ∀ (S' : List α) w', S'.Perm S → S'.Pairwise (fun a b => 0 ≤ cf b a) → D w0 (Rw elem es sv S'.length (S'.flatMap f) :: L) w' → K (.tuple #[]) w') :
    Cl P (ρ.f 6) #[sv, .func (.func g) #[] #[]] K w := by
  rcases Nat.eq_zero_or_pos S.length with hz | hp
  · obtain ⟨p, c, rfl, -⟩ := Rw.shape d.1
    have hS : S = [] := List.eq_nil_of_length_eq_zero hz
    subst hS
    refine (AnyF.slices_SortFunc_none SL p c _ w).mono ?_
    rintro e w' ⟨rfl, rfl⟩
    exact ⟨_, rfl, k [] _ (List.Perm.refl _) .nil d⟩
  · obtain ⟨b, cap, junk, rfl, hle, hl2, s⟩ := Rw.block d.1 hp
    have gb : hw w b = some (.cells (S.flatMap f ++ junk).toArray elem (0, 0)) := s.get
    have hb : b < w.heap.size := (Array.getElem?_eq_some_iff.1 gb).1
    have hH : HoldsK f es w b 0 S.toArray := by
      intro j hj
      rw [size_flatK] at hj
      have hj' : j < S.length * es := hj
      refine ⟨(cell_of gb _).trans ?_, free_of gb _⟩
      rw [Nat.zero_add, List.getElem?_append_left (by rw [flat_len hf]; exact hj')]
      exact flatK_get hf hj'
    refine (AnyQ.slices_SortFunc SL es aE zE f hf h1 cf hO g #[] b 0 cap S.toArray w eg ?_ hH hb (by simpa using hsz)).mono ?_
    · intro m os dk hs x y
      refine Calls.mono (hc _ x y (fun v w' => v = .int .i64 (cf x y) ∧ ∃ q os', w' = grow ((sortWorldK f es w b 0 m dk os).drewN q) os') fun w' d' => ⟨rfl, d'.grown⟩) ?_
      rintro e w' ⟨v, rfl, rfl, h⟩
      exact ⟨rfl, h⟩
    · rintro e w' ⟨rfl, d', n, os, hp1, hs1, rfl⟩
      obtain ⟨hsize, -, hperm⟩ := hp1
      have hsz' : d'.size = S.length := by simpa using hsize
      have hpm : d'.toList.Perm S := by
        have h1 : d'.extract 0 S.toArray.size = d' := by rw [← hsize]; exact Array.extract_size
        rw [h1, Array.extract_size] at hperm
        exact hperm
      have hfl : (d'.toList.flatMap f).length = (S.flatMap f).length := by rw [flat_len hf, flat_len hf, hpm.length_eq]
      refine ⟨_, rfl, k d'.toList _ hpm ?_ ?_⟩
      · rw [List.pairwise_iff_getElem]
        intro i j hi hj hij
        have hi' : i < d'.size := hi
        have hj' : j < d'.size := hj
        have := hs1 i j (Nat.zero_le _) hij (by simpa [← hsz'] using hj')
        unfold ltOf at this
        rw [getElem!_pos d' j hj', getElem!_pos d' i hi'] at this
        simpa using this
      · have ho : putCells id 0 (flatK f es d') (S.flatMap f ++ junk).toArray = (d'.toList.flatMap f ++ junk).toArray := by
          rw [show d' = d'.toList.toArray from rfl, flatK_list hf]
          exact putCells_list hfl.symm
        have hn : d'.toList.length = S.length := hpm.length_eq
        have hset : ∀ b' o, Hp.set (hw w) b (.cells (d'.toList.flatMap f ++ junk).toArray elem (0, 0)) b' = some o → hw (sortWorldK f es w b 0 n d' os) b' = some o := by
          intro b' o hbo
          have hlt : b' < w.heap.size := by
            unfold Hp.set at hbo
            split at hbo
            · rename_i e; rw [e]; exact hb
            · exact (Array.getElem?_eq_some_iff.1 hbo).1
          show ((w.heap.modify b (onCells (putCells id 0 (flatK f es d')))) ++ os)[b']? = some o
          rw [Array.getElem?_append_left (by rw [Array.size_modify]; exact hlt), Array.getElem?_modify]
          unfold Hp.set at hbo
          split at hbo
          · rename_i e
            subst e
            have gb' : w.heap[b']? = some (.cells (S.flatMap f ++ junk).toArray elem (0, 0)) := gb
            rw [if_pos rfl, gb', Option.map_some, ← hbo, onCells, ho]
          · rename_i e
            rw [if_neg fun h => e h.symm]
            exact hbo
        have kp : Kp w (sortWorldK f es w b 0 n d' os) := ⟨rfl, rfl, rfl, by show w.heap.size ≤ ((w.heap.modify b (onCells (putCells id 0 (flatK f es d')))) ++ os).size; simp, Nat.le_add_right _ _⟩
        rw [hn]
        exact ⟨Rw.mk (b := b) (cap := cap) (junk := junk) (Sat.ext (s.set (o' := .cells (d'.toList.flatMap f ++ junk).toArray elem (0, 0))) hset) hle (by rw [flat_len hf, hn]) (by rw [List.length_append, hfl, ← List.length_append]; exact hl2), d.2.trans kp⟩
end
end Go.Jac
