/- slices.Sort over a row of numbers, of the parts of memory; lists without doubles. -/
import Derived.Test.YtfehhjjfmbjlfaaGreatDoorSz
import Derived.Shelf.SortG.Plain
import Derived.Shelf.SortG.SortNone
set_option maxRecDepth 100000
namespace Go.Jac
open Go Go.Proofs Go.Sort Go.Shelf
theorem Sat.ext2 : ∀ {L : List HP} {h h' : Hp}, Sat L h → (∀ b o, h b = some o → h' b = some o) → Sat L h'
  | [], _, _, _, _ => trivial
  | A :: L, h, h', s, g => by
    obtain ⟨h1, h2, s1, a, l⟩ := s
    refine ⟨h1, fun b => if (h1 b).isSome then none else h' b, fun b => ?_, a, Sat.ext2 l fun b o hb => ?_⟩
    · cases hb : h1 b with
      | none => left; simp [hb]
      | some o => right; exact ⟨by simp [hb], g b o (s1.l hb)⟩
    · have : h1 b = none := s1.comm.off hb
      simp only [this, Option.isSome_none, Bool.false_eq_true, if_false]
      exact g b o (s1.r hb)
def nI (x : Int) : List Value := [.int .i64 x]
theorem nI_len (x : Int) : (nI x).length = 1 := rfl
theorem nI_map (l : List Int) : l.flatMap nI = l.map (Value.int .i64) := by
  induction l with
  | nil => rfl
  | cons a r ih => rw [List.flatMap_cons, ih]; rfl
theorem nI_one (l : List Int) : ∀ u ∈ l.flatMap nI, u.oneCell' = true := by
  intro u hu
  rw [nI_map] at hu
  obtain ⟨x, _, rfl⟩ := List.mem_map.1 hu
  rfl
/-- The numbers by size. -/
def srt (S : List Int) : List Int := S.mergeSort fun x y => decide (x ≤ y)
theorem srt_perm (S : List Int) : (srt S).Perm S := List.mergeSort_perm S _
theorem srt_len (S : List Int) : (srt S).length = S.length := (srt_perm S).length_eq
theorem srt_mem {S : List Int} {x : Int} : x ∈ srt S ↔ x ∈ S := (srt_perm S).mem_iff
theorem srt_up (S : List Int) : (srt S).Pairwise (· ≤ ·) := by
  have h := List.pairwise_mergeSort (le := fun x y => decide (x ≤ y)) (fun a b c h1 h2 => by simp only [decide_eq_true_eq] at *; omega) (fun a b => by simp only [Bool.or_eq_true, decide_eq_true_eq]; omega) S
  exact h.imp fun h => by simpa using h
theorem nodup_len {α : Type} [DecidableEq α] : ∀ {A B : List α}, A.Nodup → (∀ x ∈ A, x ∈ B) → A.length ≤ B.length
  | [], _, _, _ => Nat.zero_le _
  | x :: A, B, h, hs => by
    rw [List.nodup_cons] at h
    have hx := hs x (by simp)
    have := nodup_len (A := A) (B := B.erase x) h.2 fun y hy => (List.mem_erase_of_ne (fun e : y = x => h.1 (e ▸ hy))).2 (hs y (by simp [hy]))
    rw [List.length_erase_of_mem hx] at this
    have : 0 < B.length := List.length_pos_of_mem hx
    simp only [List.length_cons]; omega
section
variable {P : Program} {ρ : Ren} {w0 w : World} {L : List HP} {K : Value → WP} {elem : Nat} {sv : Value} {S : List Int}
theorem mp_card {b n : Nat} {g : Int → Option Value} (d : D w0 (Mp b g n :: L) w) (hn : S.Nodup) (hs : ∀ x ∈ S, (g x).isSome = true) : S.length ≤ n := by
  obtain ⟨es, clock, _, ok⟩ := Mp.at_ d
  have := nodup_len (B := es.toList.map fun e => kI e.key) hn fun x hx => by
    obtain ⟨e, he, hk⟩ := (mo_get ok).1 (hs x hx)
    exact List.mem_map.2 ⟨e, he, hk⟩
  rw [List.length_map, ok.len] at this
  exact this
theorem isort_k (Ly : SlLaysN.n53 P ρ) (hsz : S.length < 4611686018427387904) (d : D w0 (Rw elem 1 sv S.length (S.flatMap nI) :: L) w)
    (k : ∀ w', D w0 (Rw elem 1 sv (srt S).length ((srt S).flatMap nI) :: L) w' → K (.tuple #[]) w') : Cl P (ρ.f 53) #[sv] K w := by
  rcases Nat.eq_zero_or_pos S.length with hz | hp
  · obtain ⟨p, c, rfl, -⟩ := Rw.shape d.1
    have hS : S = [] := List.eq_nil_of_length_eq_zero hz
    subst hS
    refine (AnyG.slices_Sort_int_none Ly p c w).mono ?_
    rintro e w' ⟨rfl, rfl⟩
    refine ⟨_, rfl, k _ ?_⟩
    have e : srt [] = [] := List.eq_nil_of_length_eq_zero (srt_len [])
    rw [e]
    exact d
  · obtain ⟨b, cap, junk, rfl, hle, hl2, s⟩ := Rw.block d.1 hp
    have gb : hw w b = some (.cells (S.flatMap nI ++ junk).toArray elem (0, 0)) := s.get
    have hb : b < w.heap.size := (Array.getElem?_eq_some_iff.1 gb).1
    have hH : Holds (Value.int .i64) w b 0 S.toArray := by
      intro j hj
      have hj' : j < S.length := by simpa using hj
      refine ⟨(cell_of gb _).trans ?_, free_of gb _⟩
      rw [Nat.zero_add, nI_map, List.getElem?_append_left (by simpa using hj'), List.getElem?_map, List.getElem?_eq_getElem hj', Option.map_some, getElem!_pos S.toArray j hj]
      rfl
    refine (AnyG.slices_Sort_int Ly b 0 cap S w hH hb hsz).mono ?_
    rintro e w' ⟨rfl, n, os, rfl⟩
    refine ⟨_, rfl, k _ ?_⟩
    have hn := srt_len S
    have ho : putCells (Value.int .i64) 0 (srt S).toArray (S.flatMap nI ++ junk).toArray = ((srt S).flatMap nI ++ junk).toArray := by
      apply Array.ext_getElem?
      intro j
      unfold putCells
      rw [Array.getElem?_mapIdx, List.getElem?_toArray, List.getElem?_toArray, List.size_toArray, nI_map, nI_map]
      by_cases hj : j < (srt S).length
      · rw [List.getElem?_append_left (by rw [List.length_map]; omega), List.getElem?_append_left (by rw [List.length_map]; omega), List.getElem?_map, List.getElem?_map, List.getElem?_eq_getElem (by omega), List.getElem?_eq_getElem hj]
        simp only [Option.map_some]
        rw [if_pos ⟨by omega, by omega⟩, Nat.sub_zero, getElem!_pos (srt S).toArray j (by simpa using hj)]
        simp
      · rw [List.getElem?_append_right (by rw [List.length_map]; omega), List.getElem?_append_right (by rw [List.length_map]; omega), List.length_map, List.length_map, hn]
        cases hx : junk[j - S.length]? with
        | none => rfl
        | some x =>
          simp only [Option.map_some, Option.some.injEq, List.size_toArray]
          rw [if_neg (by omega)]
    have hset : ∀ b' o, Hp.set (hw w) b (.cells ((srt S).flatMap nI ++ junk).toArray elem (0, 0)) b' = some o → hw (grow (putRow (Value.int .i64) (Sort.ahead w n) b 0 (srt S).toArray) os) b' = some o := by
      intro b' o hbo
      have hlt : b' < w.heap.size := by
        unfold Hp.set at hbo
        split at hbo
        · rename_i e; rw [e]; exact hb
        · exact (Array.getElem?_eq_some_iff.1 hbo).1
      show ((w.heap.modify b (onCells (putCells (Value.int .i64) 0 (srt S).toArray))) ++ os)[b']? = some o
      rw [Array.getElem?_append_left (by rw [Array.size_modify]; exact hlt), Array.getElem?_modify]
      unfold Hp.set at hbo
      split at hbo
      · rename_i e
        subst e
        have gb' : w.heap[b']? = some (.cells (S.flatMap nI ++ junk).toArray elem (0, 0)) := gb
        rw [if_pos rfl, gb', Option.map_some, ← hbo, onCells, ho]
      · rename_i e
        rw [if_neg fun h => e h.symm]
        exact hbo
    have kp : Kp w (grow (putRow (Value.int .i64) (Sort.ahead w n) b 0 (srt S).toArray) os) := ⟨rfl, rfl, rfl, by show w.heap.size ≤ ((w.heap.modify b (onCells (putCells (Value.int .i64) 0 (srt S).toArray))) ++ os).size; simp, Nat.le_add_right _ _⟩
    have hf1 : ((srt S).flatMap nI).length = (srt S).length * 1 := by rw [nI_map, List.length_map, Nat.mul_one]
    refine ⟨?_, d.2.trans kp⟩
    have s' := Sat.ext2 (s.set (o' := .cells ((srt S).flatMap nI ++ junk).toArray elem (0, 0))) hset
    have hr := Rw.mk (n := (srt S).length) (es := 1) (cap := cap) s' (by omega) hf1 (by rw [← hl2, nI_map, nI_map]; simp [hn])
    rw [hn] at hr ⊢
    exact hr
end
end Go.Jac
