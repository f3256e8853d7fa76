/- slices.Sort over numbers at this program: the numbers of its family, and that these are its bodies. -/
import Derived.Test.YtcdkbkgpgemfgaaGreatDoorSz
import Derived.Shelf.SortG.Plain
import Derived.Shelf.SortG.SortNone
import Derived.Test.YtcdkbkgpgemfgaaGreatDoorV
set_option maxRecDepth 100000
namespace Go.Jac
open Go Go.Proofs Go.Sort Go.Shelf
theorem Sat.ext2 : ∀ {L : List HP} {h h' : Hp}, Sat L h → (∀ b o, h b = some o → h' b = some o) → Sat L h'
  | [], _, _, _, _ => trivial
  | A :: L, h, h', s, g => by
    obtain ⟨h1, h2, s1, a, l⟩ := s
    refine ⟨h1, fun b => if (h1 b).isSome then none else h' b, fun b => ?_, a, Sat.ext2 l fun b o hb => ?_⟩
    · cases hb : h1 b with
      | none => left; simp [hb]
      | some o => right; exact ⟨by simp [hb], g b o (s1.l hb)⟩
    · have : h1 b = none := s1.comm.off hb
      simp only [this, Option.isSome_none, Bool.false_eq_true, if_false]
      exact g b o (s1.r hb)
def nI (x : Int) : List Value := [.int .i64 x]
theorem nI_len (x : Int) : (nI x).length = 1 := rfl
theorem nI_map (l : List Int) : l.flatMap nI = l.map (Value.int .i64) := by
  induction l with
  | nil => rfl
  | cons a r ih => rw [List.flatMap_cons, ih]; rfl
theorem nI_one (l : List Int) : ∀ u ∈ l.flatMap nI, u.oneCell' = true := by
  intro u hu
  rw [nI_map] at hu
  obtain ⟨x, _, rfl⟩ := List.mem_map.1 hu
  rfl
/-- The numbers by size. -/
def srt (S : List Int) : List Int := S.mergeSort fun x y => decide (x ≤ y)
theorem srt_perm (S : List Int) : (srt S).Perm S := List.mergeSort_perm S _
theorem srt_len (S : List Int) : (srt S).length = S.length := (srt_perm S).length_eq
theorem srt_mem {S : List Int} {x : Int} : x ∈ srt S ↔ x ∈ S := (srt_perm S).mem_iff
theorem srt_up (S : List Int) : (srt S).Pairwise (· ≤ ·) := by
  have h := List.pairwise_mergeSort (le := fun x y => decide (x ≤ y)) (fun a b c h1 h2 => by simp only [decide_eq_true_eq] at *; omega) (fun a b => by simp only [Bool.or_eq_true, decide_eq_true_eq]; omega) S
  exact h.imp fun h => by simpa using h
theorem nodup_len {α : Type} [DecidableEq α] : ∀ {A B : List α}, A.Nodup → (∀ x ∈ A, x ∈ B) → A.length ≤ B.length
  | [], _, _, _ => Nat.zero_le _
  | x :: A, B, h, hs => by
    rw [List.nodup_cons] at h
    have hx := hs x (by simp)
    have := nodup_len (A := A) (B := B.erase x) h.2 fun y hy => (List.mem_erase_of_ne (fun e : y = x => h.1 (e ▸ hy))).2 (hs y (by simp [hy]))
    rw [List.length_erase_of_mem hx] at this
    have : 0 < B.length := List.length_pos_of_mem hx
    simp only [List.length_cons]; omega
section
variable {P : Program} {ρ : Ren} {w0 w : World} {L : List HP} {K : Value → WP} {elem : Nat} {sv : Value} {S : List Int}
theorem mp_card {b n : Nat} {g : Int → Option Value} (d : D w0 (Mp b g n :: L) w) (hn : S.Nodup) (hs : ∀ x ∈ S, (g x).isSome = true) : S.length ≤ n := by
  obtain ⟨es, clock, _, ok⟩ := Mp.at_ d
  have := nodup_len (B := es.toList.map fun e => kI e.key) hn fun x hx => by
    obtain ⟨e, he, hk⟩ := (mo_get ok).1 (hs x hx)
    exact List.mem_map.2 ⟨e, he, hk⟩
  rw [List.length_map, ok.len] at this
  exact this
theorem isort_k (Ly : SlLaysN.n53 P ρ) (hsz : S.length < 4611686018427387904) (d : D w0 (Rw elem 1 sv S.length (S.flatMap nI) :: L) w)
    (k : ∀ w', D w0 (Rw elem 1 sv (srt S).length ((srt S).flatMap nI) :: L) w' → K (.tuple #[]) w') : Cl P (ρ.f 53) #[sv] K w := by
  rcases Nat.eq_zero_or_pos S.length with hz | hp
  · obtain ⟨p, c, rfl, -⟩ := Rw.shape d.1
    have hS : S = [] := List.eq_nil_of_length_eq_zero hz
    subst hS
    refine (AnyG.slices_Sort_int_none Ly p c w).mono ?_
    rintro e w' ⟨rfl, rfl⟩
    refine ⟨_, rfl, k _ ?_⟩
    have e : srt [] = [] := List.eq_nil_of_length_eq_zero (srt_len [])
    rw [e]
    exact d
  · obtain ⟨b, cap, junk, rfl, hle, hl2, s⟩ := Rw.block d.1 hp
    have gb : hw w b = some (.cells (S.flatMap nI ++ junk).toArray elem (0, 0)) := s.get
    have hb : b < w.heap.size := (Array.getElem?_eq_some_iff.1 gb).1
    have hH : Holds (Value.int .i64) w b 0 S.toArray := by
      intro j hj
      have hj' : j < S.length := by simpa using hj
      refine ⟨(cell_of gb _).trans ?_, free_of gb _⟩
      rw [Nat.zero_add, nI_map, List.getElem?_append_left (by simpa using hj'), List.getElem?_map, List.getElem?_eq_getElem hj', Option.map_some, getElem!_pos S.toArray j hj]
      rfl
    refine (AnyG.slices_Sort_int Ly b 0 cap S w hH hb hsz).mono ?_
    rintro e w' ⟨rfl, n, os, rfl⟩
    refine ⟨_, rfl, k _ ?_⟩
    have hn := srt_len S
    have ho : putCells (Value.int .i64) 0 (srt S).toArray (S.flatMap nI ++ junk).toArray = ((srt S).flatMap nI ++ junk).toArray := by
      apply Array.ext_getElem?
      intro j
      unfold putCells
      rw [Array.getElem?_mapIdx, List.getElem?_toArray, List.getElem?_toArray, List.size_toArray, nI_map, nI_map]
      by_cases hj : j < (srt S).length
      · rw [List.getElem?_append_left (by rw [List.length_map]; omega), List.getElem?_append_left (by rw [List.length_map]; omega), List.getElem?_map, List.getElem?_map, List.getElem?_eq_getElem (by omega), List.getElem?_eq_getElem hj]
        simp only [Option.map_some]
        rw [if_pos ⟨by omega, by omega⟩, Nat.sub_zero, getElem!_pos (srt S).toArray j (by simpa using hj)]
        simp
      · rw [List.getElem?_append_right (by rw [List.length_map]; omega), List.getElem?_append_right (by rw [List.length_map]; omega), List.length_map, List.length_map, hn]
        cases hx : junk[j - S.length]? with
        | none => rfl
        | some x =>
          simp only [Option.map_some, Option.some.injEq, List.size_toArray]
          rw [if_neg (by omega)]
    have hset : ∀ b' o, Hp.set (hw w) b (.cells ((srt S).flatMap nI ++ junk).toArray elem (0, 0)) b' = some o → hw (grow (putRow (Value.int .i64) (Sort.ahead w n) b 0 (srt S).toArray) os) b' = some o := by
      intro b' o hbo
      have hlt : b' < w.heap.size := by
        unfold Hp.set at hbo
        split at hbo
        · rename_i e; rw [e]; exact hb
        · exact (Array.getElem?_eq_some_iff.1 hbo).1
      show ((w.heap.modify b (onCells (putCells (Value.int .i64) 0 (srt S).toArray))) ++ os)[b']? = some o
      rw [Array.getElem?_append_left (by rw [Array.size_modify]; exact hlt), Array.getElem?_modify]
      unfold Hp.set at hbo
      split at hbo
      · rename_i e
        subst e
        have gb' : w.heap[b']? = some (.cells (S.flatMap nI ++ junk).toArray elem (0, 0)) := gb
        rw [if_pos rfl, gb', Option.map_some, ← hbo, onCells, ho]
      · rename_i e
        rw [if_neg fun h => e h.symm]
        exact hbo
    have kp : Kp w (grow (putRow (Value.int .i64) (Sort.ahead w n) b 0 (srt S).toArray) os) := ⟨rfl, rfl, rfl, by show w.heap.size ≤ ((w.heap.modify b (onCells (putCells (Value.int .i64) 0 (srt S).toArray))) ++ os).size; simp, Nat.le_add_right _ _⟩
    have hf1 : ((srt S).flatMap nI).length = (srt S).length * 1 := by rw [nI_map, List.length_map, Nat.mul_one]
    refine ⟨?_, d.2.trans kp⟩
    have s' := Sat.ext2 (s.set (o' := .cells ((srt S).flatMap nI ++ junk).toArray elem (0, 0))) hset
    have hr := Rw.mk (n := (srt S).length) (es := 1) (cap := cap) s' (by omega) hf1 (by rw [← hl2, nI_map, nI_map]; simp [hn])
    rw [hn] at hr ⊢
    exact hr
end
end Go.Jac
set_option maxRecDepth 100000
set_option maxHeartbeats 4000000
namespace Go.Proofs.YtcdkbkgpgemfgaaGreatDoor
open Go Go.Jac Go.Shelf
def iRen : Ren := ⟨fun | 53 => 147 | 64 => 152 | 63 => 236 | 78 => 246 | 79 => 247 | 70 => 327 | 71 => 328 | 72 => 329 | 73 => 330 | 74 => 331 | 75 => 332 | 59 => 333 | 76 => 334 | 77 => 335 | 88 => 398 | 89 => 337 | 90 => 338 | 91 => 399 | 92 => 400 | 68 => 234 | 96 => 422 | n => n, fun | 22 => 30 | 23 => 3 | 3 => 3 | 51 => 249 | 0 => 0 | 67 => 344 | 69 => 346 | 4 => 4 | 61 => 337 | 60 => 336 | 44 => 341 | 5 => 5 | 9 => 9 | 75 => 423 | 79 => 427 | 83 => 472 | 84 => 473 | n => n, fun n => n⟩
theorem iLay : SlLaysN.n53 Tryz.prog iRen where
  mixed := by kernel_rfl
  f53 := ⟨"slices.Sort[[]int,int]", by decide, Tryz.func147.trans (congrArg some (by kernel_rfl))⟩
  f59 := ⟨"cmp.Less[int]", by decide, Tryz.func333.trans (congrArg some (by kernel_rfl))⟩
  f63 := ⟨"slices.pdqsortOrdered[int]", by decide, Tryz.func236.trans (congrArg some (by kernel_rfl))⟩
  f64 := Tryz.func152.trans (congrArg some (by kernel_rfl))
  f68 := ⟨"cmp.isNaN[int]", by decide, Tryz.func234.trans (congrArg some (by kernel_rfl))⟩
  f70 := ⟨"slices.insertionSortOrdered[int]", by decide, Tryz.func327.trans (congrArg some (by kernel_rfl))⟩
  f71 := ⟨"slices.heapSortOrdered[int]", by decide, Tryz.func328.trans (congrArg some (by kernel_rfl))⟩
  f72 := ⟨"slices.breakPatternsOrdered[int]", by decide, Tryz.func329.trans (congrArg some (by kernel_rfl))⟩
  f73 := ⟨"slices.choosePivotOrdered[int]", by decide, Tryz.func330.trans (congrArg some (by kernel_rfl))⟩
  f74 := ⟨"slices.reverseRangeOrdered[int]", by decide, Tryz.func331.trans (congrArg some (by kernel_rfl))⟩
  f75 := ⟨"slices.partialInsertionSortOrdered[int]", by decide, Tryz.func332.trans (congrArg some (by kernel_rfl))⟩
  f76 := ⟨"slices.partitionEqualOrdered[int]", by decide, Tryz.func334.trans (congrArg some (by kernel_rfl))⟩
  f77 := ⟨"slices.partitionOrdered[int]", by decide, Tryz.func335.trans (congrArg some (by kernel_rfl))⟩
  f78 := Tryz.func246.trans (congrArg some (by kernel_rfl))
  f79 := Tryz.func247.trans (congrArg some (by kernel_rfl))
  f88 := ⟨"slices.siftDownOrdered[int]", by decide, Tryz.func398.trans (congrArg some (by kernel_rfl))⟩
  f89 := Tryz.func337.trans (congrArg some (by kernel_rfl))
  f90 := Tryz.func338.trans (congrArg some (by kernel_rfl))
  f91 := ⟨"slices.medianAdjacentOrdered[int]", by decide, Tryz.func399.trans (congrArg some (by kernel_rfl))⟩
  f92 := ⟨"slices.medianOrdered[int]", by decide, Tryz.func400.trans (congrArg some (by kernel_rfl))⟩
  f96 := ⟨"slices.order2Ordered[int]", by decide, Tryz.func422.trans (congrArg some (by kernel_rfl))⟩
  t0 := Tryz.underlying0
  a0 := Tryz.isAgg0
  z0 := Tryz.sizeOf0
  v0 := Tryz.zeroValue0
  t3 := Tryz.underlying3
  a3 := Tryz.isAgg3
  z3 := Tryz.sizeOf3
  v3 := Tryz.zeroValue3
  t4 := Tryz.underlying4
  a4 := Tryz.isAgg4
  z4 := Tryz.sizeOf4
  v4 := Tryz.zeroValue4
  t5 := Tryz.underlying5
  a5 := Tryz.isAgg5
  z5 := Tryz.sizeOf5
  v5 := Tryz.zeroValue5
  t9 := Tryz.underlying9
  a9 := Tryz.isAgg9
  z9 := Tryz.sizeOf9
  v9 := Tryz.zeroValue9
  t22 := Tryz.underlying30
  a22 := Tryz.isAgg30
  z22 := Tryz.sizeOf30
  v22 := Tryz.zeroValue30
  t23 := Tryz.underlying3
  a23 := Tryz.isAgg3
  z23 := Tryz.sizeOf3
  v23 := Tryz.zeroValue3
  t44 := Tryz.underlying341
  a44 := Tryz.isAgg341
  z44 := Tryz.sizeOf341
  v44 := Tryz.zeroValue341
  t51 := Tryz.underlying249
  a51 := Tryz.isAgg249
  z51 := Tryz.sizeOf249
  v51 := Tryz.zeroValue249
  t60 := Tryz.underlying336
  a60 := Tryz.isAgg336
  z60 := Tryz.sizeOf336
  v60 := Tryz.zeroValue336
  t61 := Tryz.underlying337
  a61 := Tryz.isAgg337
  z61 := Tryz.sizeOf337
  v61 := Tryz.zeroValue337
  t67 := Tryz.underlying344
  a67 := Tryz.isAgg344
  z67 := Tryz.sizeOf344
  v67 := Tryz.zeroValue344
  t69 := Tryz.underlying346
  a69 := Tryz.isAgg346
  z69 := Tryz.sizeOf346
  v69 := Tryz.zeroValue346
  t75 := Tryz.underlying423
  a75 := Tryz.isAgg423
  z75 := Tryz.sizeOf423
  v75 := Tryz.zeroValue423
  t79 := Tryz.underlying427
  a79 := Tryz.isAgg427
  z79 := Tryz.sizeOf427
  v79 := Tryz.zeroValue427
  t83 := Tryz.underlying472
  a83 := Tryz.isAgg472
  z83 := Tryz.sizeOf472
  v83 := Tryz.zeroValue472
  t84 := Tryz.underlying473
  a84 := Tryz.isAgg473
  z84 := Tryz.sizeOf473
  v84 := Tryz.zeroValue473
theorem iRoot : iRen.f 53 = 147 := rfl
end Go.Proofs.YtcdkbkgpgemfgaaGreatDoor
