/- Waits: one more; one fewer. -/
import Derived.Test.YthjkmgckkacegaaWa
set_option maxRecDepth 100000
set_option maxHeartbeats 4000000
namespace Go.Proofs.Ythjkmgckkacegaa
open Go Go.Jac
/-- What becomes of a thread that would wait. -/
def bst (most : Int) (S : List Wt) (th : Int) (it : List It) : Int :=
  if th < 0 ∨ it.length < 1 ∨ 8 < it.length ∨ fidx (fun y : It => decide (y.o < 1)) it ≠ -1 then -10 else if wix th S ≠ -1 then -26 else if most ≤ S.length then -4 else 0
theorem fidx_le {α : Type} (p : α → Bool) (l : List α) : -1 ≤ fidx p l ∧ fidx p l < l.length := by
  unfold fidx
  split <;> omega
section
variable {w0 w : World} {L : List HP} {K : Value → WP} {b : Nat} {most : Int} {S : List Wt} {sv iv : Value} {it : List It}
theorem ics_one : ∀ u ∈ it.flatMap ic, u.oneCell' = true := by
  intro u hu
  obtain ⟨x, hx, hu⟩ := List.mem_flatMap.1 hu
  exact ones (l := ic x) rfl u hu
theorem Its.snoc {x : Wt} (d : D w0 (Rw 42 2 x.sv x.it.length (x.it.flatMap ic) :: Its S :: L) w) : D w0 (Its (S ++ [x]) :: L) w := by
  have key : ∀ {S : List Wt} {L : List HP} {h : Hp}, Sat (Rw 42 2 x.sv x.it.length (x.it.flatMap ic) :: (S.map fun x => Rw 42 2 x.sv x.it.length (x.it.flatMap ic)) ++ L) h → Sat (((S ++ [x]).map fun x => Rw 42 2 x.sv x.it.length (x.it.flatMap ic)) ++ L) h := by
    intro S
    induction S with
    | nil => intro L h s; exact s
    | cons y r ih => intro L h s; exact (Sat.swap s).under fun h s => ih s
  exact D.close ⟨key (d.1.under fun h s => s.opens), d.2⟩
theorem Its.drop {i : Nat} (hi : i < S.length) (d : D w0 (Its S :: L) w) : D w0 (Its (S.eraseIdx i) :: L) w := by
  have key : ∀ {S : List Wt} {i : Nat} (hi : i < S.length) {L : List HP} {h : Hp}, Sat ((S.map fun x => Rw 42 2 x.sv x.it.length (x.it.flatMap ic)) ++ L) h → Sat (((S.eraseIdx i).map fun x => Rw 42 2 x.sv x.it.length (x.it.flatMap ic)) ++ L) h := by
    intro S
    induction S with
    | nil => intro i hi; simp at hi
    | cons y r ih =>
      intro i hi L h s
      cases i with
      | zero => exact s.tail
      | succ i => exact Sat.under (A := Rw 42 2 y.sv y.it.length (y.it.flatMap ic)) s fun h s => ih (by simpa using hi) s
  have d' := D.opens d
  exact D.close ⟨key hi d'.1, d'.2⟩
theorem CloneItem_ok {n : Nat} {cs : List Value} (h1 : ∀ u ∈ cs, u.oneCell' = true) (hn : n ≤ 4294967296) (d : D w0 (Rw 42 2 iv n cs :: L) w)
    (k : ∀ sv' w', D w0 (Rw 42 2 sv' n cs :: Rw 42 2 iv n cs :: L) w' → K sv' w') : Cl pg 29 #[iv] K w := by
  refine V.slices_Clone_Item_Item_ok ?_
  exact gclone_ok (K := K) Try.underlying28 rfl h1 (by omega) (by omega) d k
theorem Delwait_ok {i : Nat} (hi : i < S.length) (hn : S.length ≤ 65536) (ho : ∀ x ∈ S, ∃ q c, x.sv = .slice q x.it.length c) (d : D w0 (Rw 80 3 sv S.length (S.flatMap wc) :: L) w)
    (k : ∀ sv' w', D w0 (Rw 80 3 sv' (S.eraseIdx i).length ((S.eraseIdx i).flatMap wc) :: L) w' → K sv' w') : Cl pg 34 #[sv, .int .i64 i, .int .i64 (i + 1)] K w := by
  refine V.slices_Delete_wait_wait_ok ?_
  have e : S = S.take i ++ [S[i]] ++ S.drop (i + 1) := by simp
  have ef : S.flatMap wc = (S.take i).flatMap wc ++ wc S[i] ++ (S.drop (i + 1)).flatMap wc := by
    conv => lhs; rw [e]
    rw [List.flatMap_append, List.flatMap_append]; simp
  rw [ef] at d
  refine gdel_ok (K := K) (P := pg) (j := i + 1) Try.underlying73 (by kernel_rfl) rfl (ones rfl) (wcs_one fun x hx => ho x (List.mem_of_mem_drop hx)) (by omega) (by omega) ?_ ?_ (by omega) d fun sv' w d => ?_
  · rw [flat_len wc_len, List.length_take]; congr 1; omega
  · rw [wc_len]; simp
  · refine k sv' w ?_
    rw [List.eraseIdx_eq_take_drop_succ, List.flatMap_append]
    have : (S.take i ++ S.drop (i + 1)).length = i + (S.length - (i + 1)) := by simp; omega
    rw [this]; exact d
theorem Block_ok {th dl : Int} (hS : S.length ≤ 65536) (hit : it.length ≤ 1048576) (hm : most ≤ 65536) (d : D w0 (Ws b most S :: Rw 42 2 iv it.length (it.flatMap ic) :: L) w)
    (k1 : bst most S th it ≠ 0 → ∀ w', D w0 (Ws b most S :: Rw 42 2 iv it.length (it.flatMap ic) :: L) w' → K (.int .i64 (bst most S th it)) w')
    (k2 : bst most S th it = 0 → ∀ sv' w', D w0 (Ws b most (S ++ [⟨th, dl, sv', it⟩]) :: Rw 42 2 iv it.length (it.flatMap ic) :: L) w' → K (.int .i64 0) w') :
    Cl pg 10 #[.pointer (some ⟨b, 0, none⟩), .int .i64 th, .int .i64 dl, iv] K w := by
  refine V.waits_Waits_Block_ok ?_
  unfold V.waits_Waits_Block
  obtain ⟨q, c, rfl, -⟩ := Rw.shape d.swap.1
  have bad : (th < 0 ∨ it.length < 1 ∨ 8 < it.length ∨ fidx (fun y : It => decide (y.o < 1)) it ≠ -1) → ∀ w', D w0 (Ws b most S :: Rw 42 2 (.slice q it.length c) it.length (it.flatMap ic) :: L) w' → K (.int .i64 (-10)) w' := by
    intro h w' d
    have e : bst most S th it = -10 := by unfold bst; rw [if_pos h]
    have := k1 (by rw [e]; decide) w' d
    rwa [e] at this
  have hf := fidx_le (fun y : It => decide (y.o < 1)) it
  have hx := wix_le th S
  repeat (first | (simp +decide only [SEM]) | (apply ldm d; (focus ((repeat (first | exact .h _ | refine .t _ _ ?_)); done)); (focus rfl)) | (apply lam d; (focus ((repeat (first | exact .h _ | refine .t _ _ ?_)); done)); (focus rfl)) | (((repeat (refine bld_c rfl rfl (by simp) ?_; simp only [List.set_cons_zero, List.set_cons_succ])); refine bld_n ?_)) | (refine d_new _ d fun bn w d => ?_) | ((first | refine bsl1 (by first | rfl | (simp only [cells_agg, cells_int, cells_bool, cells_ptr, cells_sl, cells_map, cells_fn, List.drop_succ_cons, List.drop_zero, List.take_succ_cons, List.take_zero, Nat.zero_add, Nat.reduceAdd, Int.toNat_natCast, Int.toNat_zero]; rfl)) rfl d (by decide) (by decide) fun bn w d => ?_ | refine bsl2 rfl rfl d fun bn w d => ?_ | refine bsl0 d fun bn w d => ?_)) | (first | refine drw d fun w d => ?_ | refine qt d ?_ | refine qe_nil ?_ | refine qe_fa ?_ | refine qe_len ?_ | (apply qlm; (focus ((repeat (first | exact .h _ | refine .t _ _ ?_)); done)); (focus rfl)) | (apply qam; (focus ((repeat (first | exact .h _ | refine .t _ _ ?_)); done)); (focus rfl)) | refine qe _ (fun w d => by ((repeat (refine bld_c rfl rfl (by simp) ?_; simp only [List.set_cons_zero, List.set_cons_succ])); refine bld_n ?_); exact ⟨rfl, rfl⟩) ?_ | refine qe_ext rfl ?_) | (apply swm d; (focus ((repeat (first | exact .h _ | apply Rp.t)); done)); (focus rfl); (focus rfl); (focus exact ones rfl); intro w d; simp only [SPL] at d) | (apply stm d; (focus ((repeat (first | exact .h _ | apply Rp.t)); done)); (focus rfl); (focus simp); (focus exact ones rfl); intro w d; simp only [SPL] at d) | (apply lpm d; (focus ((repeat (first | exact .h _ | refine .t _ _ ?_)); done)); (focus (simp only [SEM]; rfl)); (focus rfl)))
  refine ⟨fun h1 => ?_, fun h1 => bad (.inl h1) _ d⟩
  repeat (first | (simp +decide only [SEM]) | (apply ldm d; (focus ((repeat (first | exact .h _ | refine .t _ _ ?_)); done)); (focus rfl)) | (apply lam d; (focus ((repeat (first | exact .h _ | refine .t _ _ ?_)); done)); (focus rfl)) | (((repeat (refine bld_c rfl rfl (by simp) ?_; simp only [List.set_cons_zero, List.set_cons_succ])); refine bld_n ?_)) | (refine d_new _ d fun bn w d => ?_) | ((first | refine bsl1 (by first | rfl | (simp only [cells_agg, cells_int, cells_bool, cells_ptr, cells_sl, cells_map, cells_fn, List.drop_succ_cons, List.drop_zero, List.take_succ_cons, List.take_zero, Nat.zero_add, Nat.reduceAdd, Int.toNat_natCast, Int.toNat_zero]; rfl)) rfl d (by decide) (by decide) fun bn w d => ?_ | refine bsl2 rfl rfl d fun bn w d => ?_ | refine bsl0 d fun bn w d => ?_)) | (first | refine drw d fun w d => ?_ | refine qt d ?_ | refine qe_nil ?_ | refine qe_fa ?_ | refine qe_len ?_ | (apply qlm; (focus ((repeat (first | exact .h _ | refine .t _ _ ?_)); done)); (focus rfl)) | (apply qam; (focus ((repeat (first | exact .h _ | refine .t _ _ ?_)); done)); (focus rfl)) | refine qe _ (fun w d => by ((repeat (refine bld_c rfl rfl (by simp) ?_; simp only [List.set_cons_zero, List.set_cons_succ])); refine bld_n ?_); exact ⟨rfl, rfl⟩) ?_ | refine qe_ext rfl ?_) | (apply swm d; (focus ((repeat (first | exact .h _ | apply Rp.t)); done)); (focus rfl); (focus rfl); (focus exact ones rfl); intro w d; simp only [SPL] at d) | (apply stm d; (focus ((repeat (first | exact .h _ | apply Rp.t)); done)); (focus rfl); (focus simp); (focus exact ones rfl); intro w d; simp only [SPL] at d) | (apply lpm d; (focus ((repeat (first | exact .h _ | refine .t _ _ ?_)); done)); (focus (simp only [SEM]; rfl)); (focus rfl)))
  refine ⟨fun h2 => ?_, fun h2 => bad (.inr (.inl (by omega))) _ d⟩
  repeat (first | (simp +decide only [SEM]) | (apply ldm d; (focus ((repeat (first | exact .h _ | refine .t _ _ ?_)); done)); (focus rfl)) | (apply lam d; (focus ((repeat (first | exact .h _ | refine .t _ _ ?_)); done)); (focus rfl)) | (((repeat (refine bld_c rfl rfl (by simp) ?_; simp only [List.set_cons_zero, List.set_cons_succ])); refine bld_n ?_)) | (refine d_new _ d fun bn w d => ?_) | ((first | refine bsl1 (by first | rfl | (simp only [cells_agg, cells_int, cells_bool, cells_ptr, cells_sl, cells_map, cells_fn, List.drop_succ_cons, List.drop_zero, List.take_succ_cons, List.take_zero, Nat.zero_add, Nat.reduceAdd, Int.toNat_natCast, Int.toNat_zero]; rfl)) rfl d (by decide) (by decide) fun bn w d => ?_ | refine bsl2 rfl rfl d fun bn w d => ?_ | refine bsl0 d fun bn w d => ?_)) | (first | refine drw d fun w d => ?_ | refine qt d ?_ | refine qe_nil ?_ | refine qe_fa ?_ | refine qe_len ?_ | (apply qlm; (focus ((repeat (first | exact .h _ | refine .t _ _ ?_)); done)); (focus rfl)) | (apply qam; (focus ((repeat (first | exact .h _ | refine .t _ _ ?_)); done)); (focus rfl)) | refine qe _ (fun w d => by ((repeat (refine bld_c rfl rfl (by simp) ?_; simp only [List.set_cons_zero, List.set_cons_succ])); refine bld_n ?_); exact ⟨rfl, rfl⟩) ?_ | refine qe_ext rfl ?_) | (apply swm d; (focus ((repeat (first | exact .h _ | apply Rp.t)); done)); (focus rfl); (focus rfl); (focus exact ones rfl); intro w d; simp only [SPL] at d) | (apply stm d; (focus ((repeat (first | exact .h _ | apply Rp.t)); done)); (focus rfl); (focus simp); (focus exact ones rfl); intro w d; simp only [SPL] at d) | (apply lpm d; (focus ((repeat (first | exact .h _ | refine .t _ _ ?_)); done)); (focus (simp only [SEM]; rfl)); (focus rfl)))
  refine ⟨fun h3 => ?_, fun h3 => bad (.inr (.inr (.inl (by omega)))) _ d⟩
  repeat (first | (simp +decide only [SEM]) | (apply ldm d; (focus ((repeat (first | exact .h _ | refine .t _ _ ?_)); done)); (focus rfl)) | (apply lam d; (focus ((repeat (first | exact .h _ | refine .t _ _ ?_)); done)); (focus rfl)) | (((repeat (refine bld_c rfl rfl (by simp) ?_; simp only [List.set_cons_zero, List.set_cons_succ])); refine bld_n ?_)) | (refine d_new _ d fun bn w d => ?_) | ((first | refine bsl1 (by first | rfl | (simp only [cells_agg, cells_int, cells_bool, cells_ptr, cells_sl, cells_map, cells_fn, List.drop_succ_cons, List.drop_zero, List.take_succ_cons, List.take_zero, Nat.zero_add, Nat.reduceAdd, Int.toNat_natCast, Int.toNat_zero]; rfl)) rfl d (by decide) (by decide) fun bn w d => ?_ | refine bsl2 rfl rfl d fun bn w d => ?_ | refine bsl0 d fun bn w d => ?_)) | (first | refine drw d fun w d => ?_ | refine qt d ?_ | refine qe_nil ?_ | refine qe_fa ?_ | refine qe_len ?_ | (apply qlm; (focus ((repeat (first | exact .h _ | refine .t _ _ ?_)); done)); (focus rfl)) | (apply qam; (focus ((repeat (first | exact .h _ | refine .t _ _ ?_)); done)); (focus rfl)) | refine qe _ (fun w d => by ((repeat (refine bld_c rfl rfl (by simp) ?_; simp only [List.set_cons_zero, List.set_cons_succ])); refine bld_n ?_); exact ⟨rfl, rfl⟩) ?_ | refine qe_ext rfl ?_) | (apply swm d; (focus ((repeat (first | exact .h _ | apply Rp.t)); done)); (focus rfl); (focus rfl); (focus exact ones rfl); intro w d; simp only [SPL] at d) | (apply stm d; (focus ((repeat (first | exact .h _ | apply Rp.t)); done)); (focus rfl); (focus simp); (focus exact ones rfl); intro w d; simp only [SPL] at d) | (apply lpm d; (focus ((repeat (first | exact .h _ | refine .t _ _ ?_)); done)); (focus (simp only [SEM]; rfl)); (focus rfl)))
  refine fn20 (fun _ _ => rfl) (V.slices_ContainsFunc_Item_Item_ok ?_)
  unfold V.slices_ContainsFunc_Item_Item
  refine fn20 (fun _ _ => rfl) (V.slices_IndexFunc_Item_Item_ok ?_)
  refine gidxf_ok (LD := LdN 2) (enc := fun x => .agg (ic x).toArray) (p := fun y => decide (y.o < 1)) ic_len (by omega) (fun b o x t cs w K g hc k => hldN b o x t cs w K ic_len g hc k) d.swap (fun x w K hx d k => ?_) fun w d => ?_
  · refine fn10 (fun _ _ => rfl) (V.waits_Waits_Block_c1_ok ?_)
    unfold V.waits_Waits_Block_c1
    repeat (first | (simp +decide only [SEM]) | (apply ldm d; (focus ((repeat (first | exact .h _ | refine .t _ _ ?_)); done)); (focus rfl)) | (apply lam d; (focus ((repeat (first | exact .h _ | refine .t _ _ ?_)); done)); (focus rfl)) | (((repeat (refine bld_c rfl rfl (by simp) ?_; simp only [List.set_cons_zero, List.set_cons_succ])); refine bld_n ?_)) | (refine d_new _ d fun bn w d => ?_) | ((first | refine bsl1 (by first | rfl | (simp only [cells_agg, cells_int, cells_bool, cells_ptr, cells_sl, cells_map, cells_fn, List.drop_succ_cons, List.drop_zero, List.take_succ_cons, List.take_zero, Nat.zero_add, Nat.reduceAdd, Int.toNat_natCast, Int.toNat_zero]; rfl)) rfl d (by decide) (by decide) fun bn w d => ?_ | refine bsl2 rfl rfl d fun bn w d => ?_ | refine bsl0 d fun bn w d => ?_)) | (first | refine drw d fun w d => ?_ | refine qt d ?_ | refine qe_nil ?_ | refine qe_fa ?_ | refine qe_len ?_ | (apply qlm; (focus ((repeat (first | exact .h _ | refine .t _ _ ?_)); done)); (focus rfl)) | (apply qam; (focus ((repeat (first | exact .h _ | refine .t _ _ ?_)); done)); (focus rfl)) | refine qe _ (fun w d => by ((repeat (refine bld_c rfl rfl (by simp) ?_; simp only [List.set_cons_zero, List.set_cons_succ])); refine bld_n ?_); exact ⟨rfl, rfl⟩) ?_ | refine qe_ext rfl ?_) | (apply swm d; (focus ((repeat (first | exact .h _ | apply Rp.t)); done)); (focus rfl); (focus rfl); (focus exact ones rfl); intro w d; simp only [SPL] at d) | (apply stm d; (focus ((repeat (first | exact .h _ | apply Rp.t)); done)); (focus rfl); (focus simp); (focus exact ones rfl); intro w d; simp only [SPL] at d) | (apply lpm d; (focus ((repeat (first | exact .h _ | refine .t _ _ ?_)); done)); (focus (simp only [SEM]; rfl)); (focus rfl)))
    exact k _ d.tail
  have d := d.swap
  repeat (first | (simp +decide only [SEM]) | (apply ldm d; (focus ((repeat (first | exact .h _ | refine .t _ _ ?_)); done)); (focus rfl)) | (apply lam d; (focus ((repeat (first | exact .h _ | refine .t _ _ ?_)); done)); (focus rfl)) | (((repeat (refine bld_c rfl rfl (by simp) ?_; simp only [List.set_cons_zero, List.set_cons_succ])); refine bld_n ?_)) | (refine d_new _ d fun bn w d => ?_) | ((first | refine bsl1 (by first | rfl | (simp only [cells_agg, cells_int, cells_bool, cells_ptr, cells_sl, cells_map, cells_fn, List.drop_succ_cons, List.drop_zero, List.take_succ_cons, List.take_zero, Nat.zero_add, Nat.reduceAdd, Int.toNat_natCast, Int.toNat_zero]; rfl)) rfl d (by decide) (by decide) fun bn w d => ?_ | refine bsl2 rfl rfl d fun bn w d => ?_ | refine bsl0 d fun bn w d => ?_)) | (first | refine drw d fun w d => ?_ | refine qt d ?_ | refine qe_nil ?_ | refine qe_fa ?_ | refine qe_len ?_ | (apply qlm; (focus ((repeat (first | exact .h _ | refine .t _ _ ?_)); done)); (focus rfl)) | (apply qam; (focus ((repeat (first | exact .h _ | refine .t _ _ ?_)); done)); (focus rfl)) | refine qe _ (fun w d => by ((repeat (refine bld_c rfl rfl (by simp) ?_; simp only [List.set_cons_zero, List.set_cons_succ])); refine bld_n ?_); exact ⟨rfl, rfl⟩) ?_ | refine qe_ext rfl ?_) | (apply swm d; (focus ((repeat (first | exact .h _ | apply Rp.t)); done)); (focus rfl); (focus rfl); (focus exact ones rfl); intro w d; simp only [SPL] at d) | (apply stm d; (focus ((repeat (first | exact .h _ | apply Rp.t)); done)); (focus rfl); (focus simp); (focus exact ones rfl); intro w d; simp only [SPL] at d) | (apply lpm d; (focus ((repeat (first | exact .h _ | refine .t _ _ ?_)); done)); (focus (simp only [SEM]; rfl)); (focus rfl)))
  refine ⟨fun h4 => bad (.inr (.inr (.inr (by omega)))) _ d, fun h4 => ?_⟩
  have e1 : bst most S th it = if wix th S ≠ -1 then -26 else if most ≤ S.length then -4 else 0 := by
    unfold bst
    rw [if_neg (by omega)]
  rw [e1] at k1 k2
  refine fn20 (fun _ _ => rfl) (find_ok hS d fun w d => ?_)
  repeat (first | (simp +decide only [SEM]) | (apply ldm d; (focus ((repeat (first | exact .h _ | refine .t _ _ ?_)); done)); (focus rfl)) | (apply lam d; (focus ((repeat (first | exact .h _ | refine .t _ _ ?_)); done)); (focus rfl)) | (((repeat (refine bld_c rfl rfl (by simp) ?_; simp only [List.set_cons_zero, List.set_cons_succ])); refine bld_n ?_)) | (refine d_new _ d fun bn w d => ?_) | ((first | refine bsl1 (by first | rfl | (simp only [cells_agg, cells_int, cells_bool, cells_ptr, cells_sl, cells_map, cells_fn, List.drop_succ_cons, List.drop_zero, List.take_succ_cons, List.take_zero, Nat.zero_add, Nat.reduceAdd, Int.toNat_natCast, Int.toNat_zero]; rfl)) rfl d (by decide) (by decide) fun bn w d => ?_ | refine bsl2 rfl rfl d fun bn w d => ?_ | refine bsl0 d fun bn w d => ?_)) | (first | refine drw d fun w d => ?_ | refine qt d ?_ | refine qe_nil ?_ | refine qe_fa ?_ | refine qe_len ?_ | (apply qlm; (focus ((repeat (first | exact .h _ | refine .t _ _ ?_)); done)); (focus rfl)) | (apply qam; (focus ((repeat (first | exact .h _ | refine .t _ _ ?_)); done)); (focus rfl)) | refine qe _ (fun w d => by ((repeat (refine bld_c rfl rfl (by simp) ?_; simp only [List.set_cons_zero, List.set_cons_succ])); refine bld_n ?_); exact ⟨rfl, rfl⟩) ?_ | refine qe_ext rfl ?_) | (apply swm d; (focus ((repeat (first | exact .h _ | apply Rp.t)); done)); (focus rfl); (focus rfl); (focus exact ones rfl); intro w d; simp only [SPL] at d) | (apply stm d; (focus ((repeat (first | exact .h _ | apply Rp.t)); done)); (focus rfl); (focus simp); (focus exact ones rfl); intro w d; simp only [SPL] at d) | (apply lpm d; (focus ((repeat (first | exact .h _ | refine .t _ _ ?_)); done)); (focus (simp only [SEM]; rfl)); (focus rfl)))
  refine ⟨fun h5 => ?_, fun h5 => ?_⟩
  · have := k1 (by rw [if_pos (by omega)]; decide) _ d
    rwa [if_pos (by omega)] at this
  rw [if_neg (by omega)] at k1 k2
  obtain ⟨sv, d⟩ := Ws.out d
  obtain ⟨q2, c2, rfl, -⟩ := Rw.shape d.swap.1
  repeat (first | (simp +decide only [SEM]) | (apply ldm d; (focus ((repeat (first | exact .h _ | refine .t _ _ ?_)); done)); (focus rfl)) | (apply lam d; (focus ((repeat (first | exact .h _ | refine .t _ _ ?_)); done)); (focus rfl)) | (((repeat (refine bld_c rfl rfl (by simp) ?_; simp only [List.set_cons_zero, List.set_cons_succ])); refine bld_n ?_)) | (refine d_new _ d fun bn w d => ?_) | ((first | refine bsl1 (by first | rfl | (simp only [cells_agg, cells_int, cells_bool, cells_ptr, cells_sl, cells_map, cells_fn, List.drop_succ_cons, List.drop_zero, List.take_succ_cons, List.take_zero, Nat.zero_add, Nat.reduceAdd, Int.toNat_natCast, Int.toNat_zero]; rfl)) rfl d (by decide) (by decide) fun bn w d => ?_ | refine bsl2 rfl rfl d fun bn w d => ?_ | refine bsl0 d fun bn w d => ?_)) | (first | refine drw d fun w d => ?_ | refine qt d ?_ | refine qe_nil ?_ | refine qe_fa ?_ | refine qe_len ?_ | (apply qlm; (focus ((repeat (first | exact .h _ | refine .t _ _ ?_)); done)); (focus rfl)) | (apply qam; (focus ((repeat (first | exact .h _ | refine .t _ _ ?_)); done)); (focus rfl)) | refine qe _ (fun w d => by ((repeat (refine bld_c rfl rfl (by simp) ?_; simp only [List.set_cons_zero, List.set_cons_succ])); refine bld_n ?_); exact ⟨rfl, rfl⟩) ?_ | refine qe_ext rfl ?_) | (apply swm d; (focus ((repeat (first | exact .h _ | apply Rp.t)); done)); (focus rfl); (focus rfl); (focus exact ones rfl); intro w d; simp only [SPL] at d) | (apply stm d; (focus ((repeat (first | exact .h _ | apply Rp.t)); done)); (focus rfl); (focus simp); (focus exact ones rfl); intro w d; simp only [SPL] at d) | (apply lpm d; (focus ((repeat (first | exact .h _ | refine .t _ _ ?_)); done)); (focus (simp only [SEM]; rfl)); (focus rfl)))
  refine ⟨fun h6 => ?_, fun h6 => ?_⟩
  · have := k1 (by rw [if_pos (by omega)]; decide) _ (Ws.mk d)
    rwa [if_pos (by omega)] at this
  rw [if_neg (by omega)] at k2
  repeat (first | (simp +decide only [SEM]) | (apply ldm d; (focus ((repeat (first | exact .h _ | refine .t _ _ ?_)); done)); (focus rfl)) | (apply lam d; (focus ((repeat (first | exact .h _ | refine .t _ _ ?_)); done)); (focus rfl)) | (((repeat (refine bld_c rfl rfl (by simp) ?_; simp only [List.set_cons_zero, List.set_cons_succ])); refine bld_n ?_)) | (refine d_new _ d fun bn w d => ?_) | ((first | refine bsl1 (by first | rfl | (simp only [cells_agg, cells_int, cells_bool, cells_ptr, cells_sl, cells_map, cells_fn, List.drop_succ_cons, List.drop_zero, List.take_succ_cons, List.take_zero, Nat.zero_add, Nat.reduceAdd, Int.toNat_natCast, Int.toNat_zero]; rfl)) rfl d (by decide) (by decide) fun bn w d => ?_ | refine bsl2 rfl rfl d fun bn w d => ?_ | refine bsl0 d fun bn w d => ?_)) | (first | refine drw d fun w d => ?_ | refine qt d ?_ | refine qe_nil ?_ | refine qe_fa ?_ | refine qe_len ?_ | (apply qlm; (focus ((repeat (first | exact .h _ | refine .t _ _ ?_)); done)); (focus rfl)) | (apply qam; (focus ((repeat (first | exact .h _ | refine .t _ _ ?_)); done)); (focus rfl)) | refine qe _ (fun w d => by ((repeat (refine bld_c rfl rfl (by simp) ?_; simp only [List.set_cons_zero, List.set_cons_succ])); refine bld_n ?_); exact ⟨rfl, rfl⟩) ?_ | refine qe_ext rfl ?_) | (apply swm d; (focus ((repeat (first | exact .h _ | apply Rp.t)); done)); (focus rfl); (focus rfl); (focus exact ones rfl); intro w d; simp only [SPL] at d) | (apply stm d; (focus ((repeat (first | exact .h _ | apply Rp.t)); done)); (focus rfl); (focus simp); (focus exact ones rfl); intro w d; simp only [SPL] at d) | (apply lpm d; (focus ((repeat (first | exact .h _ | refine .t _ _ ?_)); done)); (focus (simp only [SEM]; rfl)); (focus rfl)))
  refine fn10 (fun _ _ => rfl) (CloneItem_ok ics_one (by omega) (D.pick 3 d) fun iv' w d => ?_)
  obtain ⟨q3, c3, rfl, -⟩ := Rw.shape d.1
  refine ⟨(D.sel [0, 2, 3, 4, 1] d).tail, ?_⟩
  ((repeat (refine bld_c rfl rfl (by simp) ?_; simp only [List.set_cons_zero, List.set_cons_succ])); refine bld_n ?_)
  refine ⟨(D.sel [0, 2, 3, 4, 1] d).tail, ?_⟩
  (first | refine bsl1 (by first | rfl | (simp only [cells_agg, cells_int, cells_bool, cells_ptr, cells_sl, cells_map, cells_fn, List.drop_succ_cons, List.drop_zero, List.take_succ_cons, List.take_zero, Nat.zero_add, Nat.reduceAdd, Int.toNat_natCast, Int.toNat_zero]; rfl)) rfl d (by decide) (by decide) fun bn w d => ?_ | refine bsl2 rfl rfl d fun bn w d => ?_ | refine bsl0 d fun bn w d => ?_)
  refine ⟨(D.sel [0, 1, 3, 4, 5, 2] d).tail.tail, ?_⟩
  refine d_app (m := 1) (D.pick 4 d) (src_of (gc1 (D.pick 4 d)) rfl (ones rfl) 1) rfl (by omega) (by omega) (by omega) (ones rfl) fun sv' w d => ?_
  obtain ⟨q4, c4, rfl, -⟩ := Rw.shape d.1
  repeat (first | (simp +decide only [SEM]) | (apply ldm d; (focus ((repeat (first | exact .h _ | refine .t _ _ ?_)); done)); (focus rfl)) | (apply lam d; (focus ((repeat (first | exact .h _ | refine .t _ _ ?_)); done)); (focus rfl)) | (((repeat (refine bld_c rfl rfl (by simp) ?_; simp only [List.set_cons_zero, List.set_cons_succ])); refine bld_n ?_)) | (refine d_new _ d fun bn w d => ?_) | ((first | refine bsl1 (by first | rfl | (simp only [cells_agg, cells_int, cells_bool, cells_ptr, cells_sl, cells_map, cells_fn, List.drop_succ_cons, List.drop_zero, List.take_succ_cons, List.take_zero, Nat.zero_add, Nat.reduceAdd, Int.toNat_natCast, Int.toNat_zero]; rfl)) rfl d (by decide) (by decide) fun bn w d => ?_ | refine bsl2 rfl rfl d fun bn w d => ?_ | refine bsl0 d fun bn w d => ?_)) | (first | refine drw d fun w d => ?_ | refine qt d ?_ | refine qe_nil ?_ | refine qe_fa ?_ | refine qe_len ?_ | (apply qlm; (focus ((repeat (first | exact .h _ | refine .t _ _ ?_)); done)); (focus rfl)) | (apply qam; (focus ((repeat (first | exact .h _ | refine .t _ _ ?_)); done)); (focus rfl)) | refine qe _ (fun w d => by ((repeat (refine bld_c rfl rfl (by simp) ?_; simp only [List.set_cons_zero, List.set_cons_succ])); refine bld_n ?_); exact ⟨rfl, rfl⟩) ?_ | refine qe_ext rfl ?_) | (apply swm d; (focus ((repeat (first | exact .h _ | apply Rp.t)); done)); (focus rfl); (focus rfl); (focus exact ones rfl); intro w d; simp only [SPL] at d) | (apply stm d; (focus ((repeat (first | exact .h _ | apply Rp.t)); done)); (focus rfl); (focus simp); (focus exact ones rfl); intro w d; simp only [SPL] at d) | (apply lpm d; (focus ((repeat (first | exact .h _ | refine .t _ _ ?_)); done)); (focus (simp only [SEM]; rfl)); (focus rfl)))
  have d : D w0 (cel b 75 [.slice q4 (S.length + 1) c4, .int .i64 most] :: Rw 80 3 (.slice q4 (S.length + 1) c4) (S ++ [(⟨th, dl, .slice q3 it.length c3, it⟩ : Wt)]).length ((S ++ [(⟨th, dl, .slice q3 it.length c3, it⟩ : Wt)]).flatMap wc) :: Its (S ++ [(⟨th, dl, .slice q3 it.length c3, it⟩ : Wt)]) :: Rw 42 2 (.slice q it.length c) it.length (it.flatMap ic) :: L) w := by
    have d1 := D.sel [2, 5] d
    have d2 := Its.snoc (x := ⟨th, dl, .slice q3 it.length c3, it⟩) d1
    have d3 := (D.sel [2, 4, 1, 0, 3] d2).tail
    rw [List.length_append, List.flatMap_append, List.flatMap_singleton]
    exact d3
  exact k2 rfl (.slice q3 it.length c3) _ (Ws.mk d)
/-- Without a thread. -/
def drS (th : Int) (S : List Wt) : List Wt := S.eraseP fun x => decide (x.th = th)
theorem drS_at {th : Int} {i : Nat} (h : wix th S = i) : drS th S = S.eraseIdx i := by
  unfold wix fidx at h
  unfold drS
  split at h
  · rename_i hl
    have : S.findIdx (fun x => decide (x.th = th)) = i := by omega
    rw [List.eraseP_eq_eraseIdx, List.findIdx?_eq_some_of_exists (List.findIdx_lt_length.1 hl), this]
  · omega
theorem drS_no {th : Int} (h : wix th S = -1) : drS th S = S := by
  unfold wix fidx at h
  unfold drS
  split at h
  · omega
  · rename_i hl
    refine List.eraseP_of_forall_not fun x hx hp => hl ?_
    exact List.findIdx_lt_length.2 ⟨x, hx, hp⟩
theorem Forget_ok {th : Int} (hS : S.length ≤ 65536) (d : D w0 (Ws b most S :: L) w)
    (k : ∀ w', D w0 (Ws b most (drS th S) :: L) w' → K (.int .i64 (if wix th S = -1 then -25 else 0)) w') : Cl pg 15 #[.pointer (some ⟨b, 0, none⟩), .int .i64 th] K w := by
  refine V.waits_Waits_Forget_ok ?_
  unfold V.waits_Waits_Forget
  have hx := wix_le th S
  refine fn20 (fun _ _ => rfl) (find_ok hS d fun w d => ?_)
  repeat (first | (simp +decide only [SEM]) | (apply ldm d; (focus ((repeat (first | exact .h _ | refine .t _ _ ?_)); done)); (focus rfl)) | (apply lam d; (focus ((repeat (first | exact .h _ | refine .t _ _ ?_)); done)); (focus rfl)) | (((repeat (refine bld_c rfl rfl (by simp) ?_; simp only [List.set_cons_zero, List.set_cons_succ])); refine bld_n ?_)) | (refine d_new _ d fun bn w d => ?_) | ((first | refine bsl1 (by first | rfl | (simp only [cells_agg, cells_int, cells_bool, cells_ptr, cells_sl, cells_map, cells_fn, List.drop_succ_cons, List.drop_zero, List.take_succ_cons, List.take_zero, Nat.zero_add, Nat.reduceAdd, Int.toNat_natCast, Int.toNat_zero]; rfl)) rfl d (by decide) (by decide) fun bn w d => ?_ | refine bsl2 rfl rfl d fun bn w d => ?_ | refine bsl0 d fun bn w d => ?_)) | (first | refine drw d fun w d => ?_ | refine qt d ?_ | refine qe_nil ?_ | refine qe_fa ?_ | refine qe_len ?_ | (apply qlm; (focus ((repeat (first | exact .h _ | refine .t _ _ ?_)); done)); (focus rfl)) | (apply qam; (focus ((repeat (first | exact .h _ | refine .t _ _ ?_)); done)); (focus rfl)) | refine qe _ (fun w d => by ((repeat (refine bld_c rfl rfl (by simp) ?_; simp only [List.set_cons_zero, List.set_cons_succ])); refine bld_n ?_); exact ⟨rfl, rfl⟩) ?_ | refine qe_ext rfl ?_) | (apply swm d; (focus ((repeat (first | exact .h _ | apply Rp.t)); done)); (focus rfl); (focus rfl); (focus exact ones rfl); intro w d; simp only [SPL] at d) | (apply stm d; (focus ((repeat (first | exact .h _ | apply Rp.t)); done)); (focus rfl); (focus simp); (focus exact ones rfl); intro w d; simp only [SPL] at d) | (apply lpm d; (focus ((repeat (first | exact .h _ | refine .t _ _ ?_)); done)); (focus (simp only [SEM]; rfl)); (focus rfl)))
  refine ⟨fun h => ?_, fun h => ?_⟩
  · have := k w
    rw [if_pos (by omega), drS_no (by omega)] at this
    exact this d
  · obtain ⟨i, hi⟩ : ∃ i : Nat, wix th S = i := ⟨(wix th S).toNat, by omega⟩
    rw [drS_at hi, if_neg (by omega)] at k
    rw [hi] at hx ⊢
    obtain ⟨sv, d⟩ := Ws.out d
    have hsl := its_sl (D.pick 2 d).1
    repeat (first | (simp +decide only [SEM]) | (apply ldm d; (focus ((repeat (first | exact .h _ | refine .t _ _ ?_)); done)); (focus rfl)) | (apply lam d; (focus ((repeat (first | exact .h _ | refine .t _ _ ?_)); done)); (focus rfl)) | (((repeat (refine bld_c rfl rfl (by simp) ?_; simp only [List.set_cons_zero, List.set_cons_succ])); refine bld_n ?_)) | (refine d_new _ d fun bn w d => ?_) | ((first | refine bsl1 (by first | rfl | (simp only [cells_agg, cells_int, cells_bool, cells_ptr, cells_sl, cells_map, cells_fn, List.drop_succ_cons, List.drop_zero, List.take_succ_cons, List.take_zero, Nat.zero_add, Nat.reduceAdd, Int.toNat_natCast, Int.toNat_zero]; rfl)) rfl d (by decide) (by decide) fun bn w d => ?_ | refine bsl2 rfl rfl d fun bn w d => ?_ | refine bsl0 d fun bn w d => ?_)) | (first | refine drw d fun w d => ?_ | refine qt d ?_ | refine qe_nil ?_ | refine qe_fa ?_ | refine qe_len ?_ | (apply qlm; (focus ((repeat (first | exact .h _ | refine .t _ _ ?_)); done)); (focus rfl)) | (apply qam; (focus ((repeat (first | exact .h _ | refine .t _ _ ?_)); done)); (focus rfl)) | refine qe _ (fun w d => by ((repeat (refine bld_c rfl rfl (by simp) ?_; simp only [List.set_cons_zero, List.set_cons_succ])); refine bld_n ?_); exact ⟨rfl, rfl⟩) ?_ | refine qe_ext rfl ?_) | (apply swm d; (focus ((repeat (first | exact .h _ | apply Rp.t)); done)); (focus rfl); (focus rfl); (focus exact ones rfl); intro w d; simp only [SPL] at d) | (apply stm d; (focus ((repeat (first | exact .h _ | apply Rp.t)); done)); (focus rfl); (focus simp); (focus exact ones rfl); intro w d; simp only [SPL] at d) | (apply lpm d; (focus ((repeat (first | exact .h _ | refine .t _ _ ?_)); done)); (focus (simp only [SEM]; rfl)); (focus rfl)))
    rw [w64 (by omega) (by omega)]
    refine fn30 (fun _ _ => rfl) (Delwait_ok (by omega) hS hsl d.swap fun sv' w d => ?_)
    obtain ⟨q4, c4, rfl, -⟩ := Rw.shape d.1
    repeat (first | (simp +decide only [SEM]) | (apply ldm d; (focus ((repeat (first | exact .h _ | refine .t _ _ ?_)); done)); (focus rfl)) | (apply lam d; (focus ((repeat (first | exact .h _ | refine .t _ _ ?_)); done)); (focus rfl)) | (((repeat (refine bld_c rfl rfl (by simp) ?_; simp only [List.set_cons_zero, List.set_cons_succ])); refine bld_n ?_)) | (refine d_new _ d fun bn w d => ?_) | ((first | refine bsl1 (by first | rfl | (simp only [cells_agg, cells_int, cells_bool, cells_ptr, cells_sl, cells_map, cells_fn, List.drop_succ_cons, List.drop_zero, List.take_succ_cons, List.take_zero, Nat.zero_add, Nat.reduceAdd, Int.toNat_natCast, Int.toNat_zero]; rfl)) rfl d (by decide) (by decide) fun bn w d => ?_ | refine bsl2 rfl rfl d fun bn w d => ?_ | refine bsl0 d fun bn w d => ?_)) | (first | refine drw d fun w d => ?_ | refine qt d ?_ | refine qe_nil ?_ | refine qe_fa ?_ | refine qe_len ?_ | (apply qlm; (focus ((repeat (first | exact .h _ | refine .t _ _ ?_)); done)); (focus rfl)) | (apply qam; (focus ((repeat (first | exact .h _ | refine .t _ _ ?_)); done)); (focus rfl)) | refine qe _ (fun w d => by ((repeat (refine bld_c rfl rfl (by simp) ?_; simp only [List.set_cons_zero, List.set_cons_succ])); refine bld_n ?_); exact ⟨rfl, rfl⟩) ?_ | refine qe_ext rfl ?_) | (apply swm d; (focus ((repeat (first | exact .h _ | apply Rp.t)); done)); (focus rfl); (focus rfl); (focus exact ones rfl); intro w d; simp only [SPL] at d) | (apply stm d; (focus ((repeat (first | exact .h _ | apply Rp.t)); done)); (focus rfl); (focus simp); (focus exact ones rfl); intro w d; simp only [SPL] at d) | (apply lpm d; (focus ((repeat (first | exact .h _ | refine .t _ _ ?_)); done)); (focus (simp only [SEM]; rfl)); (focus rfl)))
    exact k _ (Ws.mk ((Its.drop (i := i) (by omega) (D.pick 2 d)).sel [2, 1, 0]))
end
end Go.Proofs.Ythjkmgckkacegaa
