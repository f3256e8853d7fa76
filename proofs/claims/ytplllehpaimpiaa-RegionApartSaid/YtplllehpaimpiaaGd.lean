/- Regions: Put; Cut; Place. -/
import Derived.Test.YtplllehpaimpiaaGc
set_option maxRecDepth 100000
set_option maxHeartbeats 8000000
namespace Go.Proofs.Ytplllehpaimpiaa
open Go Go.Jac
/-- What stays outside of a cut, and what lies within. -/
def outP (at_ m : Int) (x : Pc) : List Pc := if ovB x.a x.n at_ m = true then (if x.a < at_ then [part x x.a at_] else []) ++ (if at_ + m < x.a + x.n then [part x (at_ + m) (x.a + x.n)] else []) else [x]
def inP (at_ m : Int) (x : Pc) : List Pc := if ovB x.a x.n at_ m = true then [part x at_ (at_ + m)] else []
def chkSt (size at_ m : Int) : Int := if ¬ (pgB at_ && pgB m) = true ∨ m = 0 then -10 else if ¬ (0 ≤ at_ ∧ 0 ≤ m ∧ at_ ≤ size ∧ m ≤ size - at_) then -14 else 0
theorem chk0 {size at_ m : Int} (h : chkSt size at_ m = 0) : at_ % 64 = 0 ∧ m % 64 = 0 ∧ 0 ≤ at_ ∧ 0 < m ∧ at_ + m ≤ size := by
  unfold chkSt pgB at h
  split at h
  · omega
  · rename_i h1
    split at h
    · omega
    · simp only [Bool.and_eq_true, decide_eq_true_eq, not_or] at h1
      omega
section
variable {w0 w : World} {L : List HP} {K : Value → WP} {b n : Nat} {size most : Int} {sv lv v : Value} {x : Pc} {S : List Pc}
theorem Put_ok (hx : I64 x.a ∧ I64 x.n ∧ I64 x.v ∧ I64 x.f ∧ I64 x.p) (hv : ∀ y ∈ S, I64 y.v) (d : D w0 (Rg b size most S :: L) w)
    (k1 : putSt size most S x ≠ 0 → ∀ w', D w0 (Rg b size most S :: L) w' → K (.int .i64 (putSt size most S x)) w')
    (k2 : putSt size most S x = 0 → ∀ w', D w0 (Rg b size most (insP S x) :: L) w' → K (.int .i64 0) w') : Cl pg 8 #[.pointer (some ⟨b, 0, none⟩), .agg (pc x).toArray] K w := by
  refine V.region_Region_Put_ok ?_
  unfold V.region_Region_Put
  have ok := Rg.facts d
  have hl := ok.len
  have hmo := ok.mo
  have hsz := ok.sz
  have hpx : pc x = [.int .i64 x.a, .int .i64 x.n, .int .i64 x.v, .int .i64 x.f, .int .i64 x.p] := rfl
  simp only [cells_agg]
  have hput : putSt size most S x = putSt size most S x := rfl
  conv at hput => rhs; unfold putSt
  rw [hpx]
  refine d_new _ d fun bn w d => ?_
  generalize bn = b3 at d ⊢
  refine d_new _ d fun bn w d => ?_
  generalize bn = b4 at d ⊢
  have bad : (¬ (pgB x.a && pgB x.n && pgB x.f) = true ∨ x.n = 0 ∨ 4294967296 < x.f ∨ (x.p < 0 ∨ 3 < x.p)) → ∀ (A B : HP) (w : World), D w0 (A :: B :: Rg b size most S :: L) w → K (.int .i64 (-10)) w := fun h A B w d => by
    rw [if_pos h] at hput
    have := k1 (by rw [hput]; decide) w d.tail.tail
    rwa [hput] at this
  repeat (first | (simp +decide only [SEM]) | (apply ldm d; (focus ((repeat (first | exact .h _ | refine .t _ _ ?_)); done)); (focus rfl)) | refine bsl3 rfl rfl rfl d fun bn w d => ?_)
  have d := row_of (l := [x.a, x.n, x.f]) d
  refine fn10 (fun _ _ => rfl) (pages_ok (l := [x.a, x.n, x.f]) (by simp) d fun w d => ?_)
  have hall : ([x.a, x.n, x.f] : List Int).all pgB = (pgB x.a && pgB x.n && pgB x.f) := by simp [Bool.and_assoc]
  rw [hall]
  have d := d.tail
  cases hpg : (pgB x.a && pgB x.n && pgB x.f) with
  | false =>
    repeat (first | (simp +decide only [SEM]) | (apply ldm d; (focus ((repeat (first | exact .h _ | refine .t _ _ ?_)); done)); (focus rfl)) | (apply swm d; (focus ((repeat (first | exact .h _ | apply Rp.t)); done)); (focus rfl); (focus rfl); (focus exact ones rfl); intro w d; simp only [SPL] at d))
    exact bad (.inl (by rw [hpg]; decide)) _ _ w d
  | true =>
  have hpg2 := hpg
  simp only [Bool.and_eq_true] at hpg2
  unfold pgB at hpg2
  simp only [decide_eq_true_eq] at hpg2
  repeat (first | (simp +decide only [SEM]) | (apply ldm d; (focus ((repeat (first | exact .h _ | refine .t _ _ ?_)); done)); (focus rfl)))
  refine ⟨fun h1 => ?_, fun h1 => ?_⟩
  rotate_left
  · repeat (first | (apply ldm d; (focus ((repeat (first | exact .h _ | refine .t _ _ ?_)); done)); (focus rfl)) | (apply swm d; (focus ((repeat (first | exact .h _ | apply Rp.t)); done)); (focus rfl); (focus rfl); (focus exact ones rfl); intro w d; simp only [SPL] at d))
    exact bad (.inr (.inl h1)) _ _ w d
  repeat (first | (simp +decide only [SEM]) | (apply ldm d; (focus ((repeat (first | exact .h _ | refine .t _ _ ?_)); done)); (focus rfl)))
  refine ⟨fun h2 => ?_, fun h2 => ?_⟩
  rotate_left
  · repeat (first | (apply ldm d; (focus ((repeat (first | exact .h _ | refine .t _ _ ?_)); done)); (focus rfl)) | (apply swm d; (focus ((repeat (first | exact .h _ | apply Rp.t)); done)); (focus rfl); (focus rfl); (focus exact ones rfl); intro w d; simp only [SPL] at d))
    exact bad (.inr (.inr (.inl h2))) _ _ w d
  repeat (apply ldm d; (focus ((repeat (first | exact .h _ | refine .t _ _ ?_)); done)); (focus rfl))
  refine fn10 (fun _ _ => rfl) (wrong_ok ?_)
  repeat (simp +decide only [SEM])
  refine ⟨fun h3 => ?_, fun h3 => ?_⟩
  · repeat (first | (apply ldm d; (focus ((repeat (first | exact .h _ | refine .t _ _ ?_)); done)); (focus rfl)) | (apply swm d; (focus ((repeat (first | exact .h _ | apply Rp.t)); done)); (focus rfl); (focus rfl); (focus exact ones rfl); intro w d; simp only [SPL] at d))
    exact bad (.inr (.inr (.inr h3))) _ _ w d
  rw [if_neg (by rw [hpg]; simp; omega)] at hput
  obtain ⟨-, v, d⟩ := Rg.out (D.sel [2, 0, 1] d)
  obtain ⟨q, c, rfl, -⟩ := Rw.shape d.swap.1
  repeat (first | refine drw d fun w d => ?_ | refine qt d ?_ | refine qe_nil ?_ | (apply qlm; (focus ((repeat (first | exact .h _ | refine .t _ _ ?_)); done)); (focus rfl)))
  refine fn30 (fun _ _ => rfl) (Within_ok ⟨by omega, by omega⟩ ?_)
  repeat (simp +decide only [SEM])
  have d := Rg.mk ok d
  refine ⟨fun h4 => ?_, fun h4 => ?_⟩
  · rw [if_pos (by omega)] at hput
    repeat (first | (apply ldm d; (focus ((repeat (first | exact .h _ | refine .t _ _ ?_)); done)); (focus rfl)) | (apply swm d; (focus ((repeat (first | exact .h _ | apply Rp.t)); done)); (focus rfl); (focus rfl); (focus exact ones rfl); intro w d; simp only [SPL] at d))
    have := k1 (by rw [hput]; decide) w d.tail2.tail2
    rwa [hput] at this
  rw [if_neg (by omega)] at hput
  repeat (first | (simp +decide only [SEM]) | (apply ldm d; (focus ((repeat (first | exact .h _ | refine .t _ _ ?_)); done)); (focus rfl)))
  refine fn30 (fun _ _ => rfl) (V.region_Region_over_ok ?_)
  unfold V.region_Region_over
  simp only [cells_ptr, cells_int]
  refine d_new _ d fun bn w d => ?_
  generalize bn = b5 at d ⊢
  refine d_new _ d fun bn w d => ?_
  generalize bn = b6 at d ⊢
  refine d_new _ d fun bn w d => ?_
  generalize bn = b7 at d ⊢
  refine d_rf0 (fun _ _ => rfl) d fun m l r0 w hr hp hro d => ?_
  refine over_ok (L := _ :: _ :: _ :: _ :: L) (at_ := x.a) (m := x.n) hx.1 hx.2.1 (by omega) hv (D.sel [2, 3, 4, 5, 0, 1, 6, 7] d) (fun hno w d => ?_) (fun i hi ho hno w d K' hK => ?_)
  · rw [if_neg (fun ⟨y, hy, ho⟩ => by rw [hno y hy] at ho; cases ho)] at hput
    refine ⟨r0, _, D.sel [4] d, sameLp.refl r0, by rw [hr]; simp, fun w d => ?_⟩
    rw [hp]
    simp only [JumpC]
    obtain ⟨-, v, d⟩ := Rg.out (D.sel [3, 0, 1, 2] d)
    obtain ⟨q, c, rfl, -⟩ := Rw.shape d.swap.1
    repeat (first | refine drw d fun w d => ?_ | (simp +decide only [SEM]) | refine qt d ?_ | refine qe_nil ?_ | refine qe_len ?_ | (apply qlm; (focus ((repeat (first | exact .h _ | refine .t _ _ ?_)); done)); (focus rfl)))
    refine ⟨fun h5 => ?_, fun h5 => ?_⟩
    · rw [if_pos (by omega)] at hput
      repeat (apply swm d; (focus ((repeat (first | exact .h _ | apply Rp.t)); done)); (focus rfl); (focus rfl); (focus exact ones rfl); intro w d; simp only [SPL] at d)
      refine d_lv1 (D.sel [5] d) fun w d => ?_
      repeat (apply ldm d; (focus ((repeat (first | exact .h _ | refine .t _ _ ?_)); done)); (focus rfl))
      have := k1 (by rw [hput]; decide) w (Rg.mk ok (D.sel [2, 3, 4, 5, 6, 0, 1] d).tail.tail.tail.tail.tail)
      rwa [hput] at this
    · rw [if_neg (by omega)] at hput
      repeat (first | refine drw d fun w d => ?_ | refine qt d ?_ | refine qe_nil ?_ | (apply qlm; (focus ((repeat (first | exact .h _ | refine .t _ _ ?_)); done)); (focus rfl)))
      refine fn30 (fun _ _ => rfl) (bins_ok ok (D.sel [1] d) fun r w d => ?_)
      repeat (first | refine drw d fun w d => ?_ | refine bsl1 (by first | rfl | (simp only [cells_agg, cells_int, cells_bool, cells_ptr, cells_sl, cells_map, cells_fn, List.drop_succ_cons, List.drop_zero, List.take_succ_cons, List.take_zero, Nat.zero_add, Nat.reduceAdd, Int.toNat_natCast, Int.toNat_zero]; rfl)) rfl d (by decide) (by decide) fun bn w d => ?_ | refine qt d ?_ | refine qe_nil ?_ | (apply qlm; (focus ((repeat (first | exact .h _ | refine .t _ _ ?_)); done)); (focus rfl)) | (apply qam; (focus ((repeat (first | exact .h _ | refine .t _ _ ?_)); done)); (focus rfl)) | refine qe_ext rfl ?_ | refine ch (D.tail d) ?_)
      refine fn30 (fun _ _ => rfl) (insert_ok (x := x) (pos_le S x.a) (by omega) (D.sel [1, 0] d) fun sv' w d => ?_)
      obtain ⟨q2, c2, rfl, -⟩ := Rw.shape d.1
      repeat (first | (simp +decide only [SEM]) | (apply swm d; (focus ((repeat (first | exact .h _ | apply Rp.t)); done)); (focus rfl); (focus rfl); (focus exact ones rfl); intro w d; simp only [SPL] at d) | (apply stm d; (focus ((repeat (first | exact .h _ | apply Rp.t)); done)); (focus rfl); (focus simp); (focus exact ones rfl); intro w d; simp only [SPL] at d))
      refine d_lv1 (D.sel [6] d) fun w d => ?_
      repeat (apply ldm d; (focus ((repeat (first | exact .h _ | refine .t _ _ ?_)); done)); (focus rfl))
      exact k2 hput w (Rg.mk (ins_rok ok (put0.1 hput)) (D.sel [1, 3, 4, 5, 6, 7, 2, 0] d).tail.tail.tail.tail.tail.tail)
  · rw [if_pos ⟨_, List.getElem_mem hi, ho⟩] at hput
    refine y_ok (args := [.int .i64 i, .agg (pc S[i]).toArray]) hro (D.sel [4] d) ?_
    simp only [UN, UNe]
    refine d_beg (D.sel [4] d) hr fun w d => ?_
    repeat (apply swm d; (focus ((repeat (first | exact .h _ | apply Rp.t)); done)); (focus rfl); (focus rfl); (focus exact ones rfl); intro w d; simp only [SPL] at d)
    refine d_endj d fun w d => ?_
    refine hK _ ⟨_, _, d, ⟨rfl, rfl, rfl, rfl, rfl, rfl⟩, by simp, fun w d => ?_⟩
    simp only [JumpC]
    refine d_lv1 (D.sel [4] d) fun w d => ?_
    repeat (apply ldm d; (focus ((repeat (first | exact .h _ | refine .t _ _ ?_)); done)); (focus rfl))
    have := k1 (by rw [hput]; decide) w (D.sel [0, 1, 2, 4, 5, 3] d).tail.tail.tail.tail.tail
    rwa [hput] at this
theorem check_ok {at_ m : Int} (d : D w0 (Rg b size most S :: L) w) (k : ∀ w', D w0 (Rg b size most S :: L) w' → K (.int .i64 (chkSt size at_ m)) w') : Cl pg 23 #[.pointer (some ⟨b, 0, none⟩), .int .i64 at_, .int .i64 m] K w := by
  refine V.region_Region_check_ok ?_
  unfold V.region_Region_check
  have ok := Rg.facts d
  have hsz := ok.sz
  unfold chkSt at k
  repeat (refine bsl2 rfl rfl d fun bn w d => ?_)
  have d := row_of (l := [at_, m]) d
  refine fn10 (fun _ _ => rfl) (pages_ok (l := [at_, m]) (by simp) d fun w d => ?_)
  have hall : ([at_, m] : List Int).all pgB = (pgB at_ && pgB m) := by simp
  rw [hall]
  have d := d.tail
  cases hpg : (pgB at_ && pgB m) with
  | false =>
    rw [if_pos (.inl (by rw [hpg]; decide))] at k
    repeat (simp +decide only [SEM])
    exact k w d
  | true =>
    repeat (simp +decide only [SEM])
    refine ⟨fun h1 => ?_, fun h1 => ?_⟩
    · rw [if_pos (.inr h1)] at k
      exact k w d
    · rw [if_neg (by rw [hpg]; simp; exact h1)] at k
      obtain ⟨-, v, d⟩ := Rg.out d
      repeat (apply ldm d; (focus ((repeat (first | exact .h _ | refine .t _ _ ?_)); done)); (focus rfl))
      refine fn30 (fun _ _ => rfl) (Within_ok ⟨by omega, by omega⟩ ?_)
      repeat (simp +decide only [SEM])
      refine ⟨fun h2 => ?_, fun h2 => ?_⟩
      · rw [if_pos h2] at k
        exact k w (Rg.mk ok d)
      · rw [if_neg (fun h => h h2)] at k
        exact k w (Rg.mk ok d)
end
end Go.Proofs.Ytplllehpaimpiaa
