/- Waits: telling, cancelling. -/
import Derived.Test.YthjkmgckkacegaaWc
set_option maxRecDepth 100000
set_option maxHeartbeats 4000000
namespace Go.Proofs.Ythjkmgckkacegaa
open Go Go.Jac
structure Wk where
  th : Int
  it : Int
  st : Int
  sh : Int
def kc (x : Wk) : List Value := [.int .i64 x.th, .int .i64 x.it, .int .i64 x.st, .int .i64 x.sh]
theorem kc_len (x : Wk) : (kc x).length = 4 := rfl
def toWk (st sh : Int) (x : Wt × Nat) : Wk := ⟨x.1.th, x.2, st, sh⟩
def drAll (l : List Wk) (S : List Wt) : List Wt := l.foldl (fun S x => drS x.th S) S
theorem drS_len (th : Int) (S : List Wt) : (drS th S).length ≤ S.length := by
  unfold drS; exact List.length_eraseP_le
theorem drAll_len (l : List Wk) : ∀ S, (drAll l S).length ≤ S.length := by
  induction l with
  | nil => intro S; exact Nat.le_refl _
  | cons x r ih => intro S; exact Nat.le_trans (ih _) (drS_len _ _)
theorem kcs_one {l : List Wk} : ∀ u ∈ l.flatMap kc, u.oneCell' = true := by
  intro u hu
  obtain ⟨x, hx, hu⟩ := List.mem_flatMap.1 hu
  exact ones (l := kc x) rfl u hu
section
variable {w0 w : World} {L : List HP} {K : Value → WP} {b : Nat} {most : Int} {S : List Wt} {sv iv lv : Value} {it : List It}
theorem wake_ok {l : List Wk} (hS : S.length ≤ 65536) (hl : l.length ≤ 1048576) (d : D w0 (Ws b most S :: Rw 38 4 lv l.length (l.flatMap kc) :: L) w)
    (k : ∀ w', D w0 (Ws b most (drAll l S) :: Rw 38 4 lv l.length (l.flatMap kc) :: L) w' → K lv w') : Cl pg 33 #[.pointer (some ⟨b, 0, none⟩), lv] K w := by
  refine V.waits_Waits_wake_ok ?_
  unfold V.waits_Waits_wake
  obtain ⟨q, c, rfl, -⟩ := Rw.shape d.swap.1
  repeat (first | (simp +decide only [SEM]) | (apply ldm d; (focus ((repeat (first | exact .h _ | refine .t _ _ ?_)); done)); (focus rfl)) | (apply lam d; (focus ((repeat (first | exact .h _ | refine .t _ _ ?_)); done)); (focus rfl)) | (((repeat (refine bld_c rfl rfl (by simp) ?_; simp only [List.set_cons_zero, List.set_cons_succ])); refine bld_n ?_)) | (refine d_new _ d fun bn w d => ?_) | ((first | refine bsl1 (by first | rfl | (simp only [cells_agg, cells_int, cells_bool, cells_ptr, cells_sl, cells_map, cells_fn, List.drop_succ_cons, List.drop_zero, List.take_succ_cons, List.take_zero, Nat.zero_add, Nat.reduceAdd, Int.toNat_natCast, Int.toNat_zero]; rfl)) rfl d (by decide) (by decide) fun bn w d => ?_ | refine bsl2 rfl rfl d fun bn w d => ?_ | refine bsl0 d fun bn w d => ?_)) | (first | refine drw d fun w d => ?_ | refine qt d ?_ | refine qe_nil ?_ | refine qe_fa ?_ | refine qe_len ?_ | (apply qlm; (focus ((repeat (first | exact .h _ | refine .t _ _ ?_)); done)); (focus rfl)) | (apply qam; (focus ((repeat (first | exact .h _ | refine .t _ _ ?_)); done)); (focus rfl)) | refine qe _ (fun w d => by ((repeat (refine bld_c rfl rfl (by simp) ?_; simp only [List.set_cons_zero, List.set_cons_succ])); refine bld_n ?_); exact ⟨rfl, rfl⟩) ?_ | refine qe_ext rfl ?_) | (apply swm d; (focus ((repeat (first | exact .h _ | apply Rp.t)); done)); (focus rfl); (focus rfl); (focus exact ones rfl); intro w d; simp only [SPL] at d) | (apply stm d; (focus ((repeat (first | exact .h _ | apply Rp.t)); done)); (focus rfl); (focus simp); (focus exact ones rfl); intro w d; simp only [SPL] at d) | (apply lpm d; (focus ((repeat (first | exact .h _ | refine .t _ _ ?_)); done)); (focus (simp only [SEM]; rfl)); (focus rfl)))
  refine ⟨fun vs w => ∃ (i : Nat), vs = [.int .i64 i] ∧ i ≤ l.length ∧ D w0 (Ws b most (drAll (l.take i) S) :: Rw 38 4 (.slice q l.length c) l.length (l.flatMap kc) :: L) w, fun vs _ => match vs with | [.int _ i] => l.length - i.toNat | _ => 0, ⟨0, rfl, by omega, d⟩, ?_⟩
  rintro _ w ⟨i, rfl, hi, d⟩ _
  simp only [UN]
  repeat (first | (simp +decide only [SEM]) | (apply ldm d; (focus ((repeat (first | exact .h _ | refine .t _ _ ?_)); done)); (focus rfl)) | (apply lam d; (focus ((repeat (first | exact .h _ | refine .t _ _ ?_)); done)); (focus rfl)) | (((repeat (refine bld_c rfl rfl (by simp) ?_; simp only [List.set_cons_zero, List.set_cons_succ])); refine bld_n ?_)) | (refine d_new _ d fun bn w d => ?_) | ((first | refine bsl1 (by first | rfl | (simp only [cells_agg, cells_int, cells_bool, cells_ptr, cells_sl, cells_map, cells_fn, List.drop_succ_cons, List.drop_zero, List.take_succ_cons, List.take_zero, Nat.zero_add, Nat.reduceAdd, Int.toNat_natCast, Int.toNat_zero]; rfl)) rfl d (by decide) (by decide) fun bn w d => ?_ | refine bsl2 rfl rfl d fun bn w d => ?_ | refine bsl0 d fun bn w d => ?_)) | (first | refine drw d fun w d => ?_ | refine qt d ?_ | refine qe_nil ?_ | refine qe_fa ?_ | refine qe_len ?_ | (apply qlm; (focus ((repeat (first | exact .h _ | refine .t _ _ ?_)); done)); (focus rfl)) | (apply qam; (focus ((repeat (first | exact .h _ | refine .t _ _ ?_)); done)); (focus rfl)) | refine qe _ (fun w d => by ((repeat (refine bld_c rfl rfl (by simp) ?_; simp only [List.set_cons_zero, List.set_cons_succ])); refine bld_n ?_); exact ⟨rfl, rfl⟩) ?_ | refine qe_ext rfl ?_) | (apply swm d; (focus ((repeat (first | exact .h _ | apply Rp.t)); done)); (focus rfl); (focus rfl); (focus exact ones rfl); intro w d; simp only [SPL] at d) | (apply stm d; (focus ((repeat (first | exact .h _ | apply Rp.t)); done)); (focus rfl); (focus simp); (focus exact ones rfl); intro w d; simp only [SPL] at d) | (apply lpm d; (focus ((repeat (first | exact .h _ | refine .t _ _ ?_)); done)); (focus (simp only [SEM]; rfl)); (focus rfl)))
  refine ⟨fun hlt => ?_, fun hge => ?_⟩
  · have hlt' : i < l.length := by omega
    obtain ⟨b1, c1, cs, e, g, hc⟩ := rec_at kc_len d.swap (i := (i : Int)) (by omega) hlt
    cases e
    refine ia_ok (by omega) hlt ?_
    refine hldN _ _ l[i] _ _ _ _ kc_len g (fun j x hx => by rw [Nat.zero_add]; exact hc j x hx) ?_
    refine d_new _ d fun bx w d => ?_
    refine stw0 d rfl rfl (ones rfl) fun w d => ?_
    simp only [cells_agg, List.toList_toArray] at d
    repeat (first | (simp +decide only [SEM]) | (apply ldm d; (focus ((repeat (first | exact .h _ | refine .t _ _ ?_)); done)); (focus rfl)) | (apply lam d; (focus ((repeat (first | exact .h _ | refine .t _ _ ?_)); done)); (focus rfl)) | (((repeat (refine bld_c rfl rfl (by simp) ?_; simp only [List.set_cons_zero, List.set_cons_succ])); refine bld_n ?_)) | (refine d_new _ d fun bn w d => ?_) | ((first | refine bsl1 (by first | rfl | (simp only [cells_agg, cells_int, cells_bool, cells_ptr, cells_sl, cells_map, cells_fn, List.drop_succ_cons, List.drop_zero, List.take_succ_cons, List.take_zero, Nat.zero_add, Nat.reduceAdd, Int.toNat_natCast, Int.toNat_zero]; rfl)) rfl d (by decide) (by decide) fun bn w d => ?_ | refine bsl2 rfl rfl d fun bn w d => ?_ | refine bsl0 d fun bn w d => ?_)) | (first | refine drw d fun w d => ?_ | refine qt d ?_ | refine qe_nil ?_ | refine qe_fa ?_ | refine qe_len ?_ | (apply qlm; (focus ((repeat (first | exact .h _ | refine .t _ _ ?_)); done)); (focus rfl)) | (apply qam; (focus ((repeat (first | exact .h _ | refine .t _ _ ?_)); done)); (focus rfl)) | refine qe _ (fun w d => by ((repeat (refine bld_c rfl rfl (by simp) ?_; simp only [List.set_cons_zero, List.set_cons_succ])); refine bld_n ?_); exact ⟨rfl, rfl⟩) ?_ | refine qe_ext rfl ?_) | (apply swm d; (focus ((repeat (first | exact .h _ | apply Rp.t)); done)); (focus rfl); (focus rfl); (focus exact ones rfl); intro w d; simp only [SPL] at d) | (apply stm d; (focus ((repeat (first | exact .h _ | apply Rp.t)); done)); (focus rfl); (focus simp); (focus exact ones rfl); intro w d; simp only [SPL] at d) | (apply lpm d; (focus ((repeat (first | exact .h _ | refine .t _ _ ?_)); done)); (focus (simp only [SEM]; rfl)); (focus rfl)))
    refine fn20 (fun _ _ => rfl) (Forget_ok (Nat.le_trans (drAll_len _ _) hS) d.swap fun w d => ?_)
    repeat (first | (simp +decide only [SEM]) | (apply ldm d; (focus ((repeat (first | exact .h _ | refine .t _ _ ?_)); done)); (focus rfl)) | (apply lam d; (focus ((repeat (first | exact .h _ | refine .t _ _ ?_)); done)); (focus rfl)) | (((repeat (refine bld_c rfl rfl (by simp) ?_; simp only [List.set_cons_zero, List.set_cons_succ])); refine bld_n ?_)) | (refine d_new _ d fun bn w d => ?_) | ((first | refine bsl1 (by first | rfl | (simp only [cells_agg, cells_int, cells_bool, cells_ptr, cells_sl, cells_map, cells_fn, List.drop_succ_cons, List.drop_zero, List.take_succ_cons, List.take_zero, Nat.zero_add, Nat.reduceAdd, Int.toNat_natCast, Int.toNat_zero]; rfl)) rfl d (by decide) (by decide) fun bn w d => ?_ | refine bsl2 rfl rfl d fun bn w d => ?_ | refine bsl0 d fun bn w d => ?_)) | (first | refine drw d fun w d => ?_ | refine qt d ?_ | refine qe_nil ?_ | refine qe_fa ?_ | refine qe_len ?_ | (apply qlm; (focus ((repeat (first | exact .h _ | refine .t _ _ ?_)); done)); (focus rfl)) | (apply qam; (focus ((repeat (first | exact .h _ | refine .t _ _ ?_)); done)); (focus rfl)) | refine qe _ (fun w d => by ((repeat (refine bld_c rfl rfl (by simp) ?_; simp only [List.set_cons_zero, List.set_cons_succ])); refine bld_n ?_); exact ⟨rfl, rfl⟩) ?_ | refine qe_ext rfl ?_) | (apply swm d; (focus ((repeat (first | exact .h _ | apply Rp.t)); done)); (focus rfl); (focus rfl); (focus exact ones rfl); intro w d; simp only [SPL] at d) | (apply stm d; (focus ((repeat (first | exact .h _ | apply Rp.t)); done)); (focus rfl); (focus simp); (focus exact ones rfl); intro w d; simp only [SPL] at d) | (apply lpm d; (focus ((repeat (first | exact .h _ | refine .t _ _ ?_)); done)); (focus (simp only [SEM]; rfl)); (focus rfl)))
    rw [w64 (by omega) (by omega)]
    refine ⟨⟨i + 1, by simp, by omega, ?_⟩, by show l.length - ((i : Int) + 1).toNat < l.length - (i : Int).toNat; omega⟩
    have e : drAll (l.take (i + 1)) S = drS l[i].th (drAll (l.take i) S) := by
      unfold drAll
      rw [List.take_succ_eq_append_getElem hlt', List.foldl_append]; rfl
    rw [e]
    exact D.tail2 d
  · have e : l.take i = l := List.take_of_length_le (by omega)
    rw [e] at d
    exact k _ d
/-- Those told so far, in a list of their own. -/
def Tm (l : Nat) (r0 : Loop) (G : HP) (bo : Nat) (st sh : Int) (acc : List (Wt × Nat)) : HP := ex fun sv => sat [pts l (.loop r0), G, cel bo 33 [sv], Rw 38 4 sv (acc.map (toWk st sh)).length ((acc.map (toWk st sh)).flatMap kc)]
section
variable {l bo : Nat} {r0 : Loop} {G : HP} {st sh : Int} {acc : List (Wt × Nat)}
theorem Tm.out (d : D w0 (Tm l r0 G bo st sh acc :: L) w) : ∃ sv, D w0 (pts l (.loop r0) :: G :: cel bo 33 [sv] :: Rw 38 4 sv (acc.map (toWk st sh)).length ((acc.map (toWk st sh)).flatMap kc) :: L) w := by
  obtain ⟨sv, d⟩ := d.ex
  exact ⟨sv, d.opens⟩
theorem Tm.mk (d : D w0 (pts l (.loop r0) :: G :: cel bo 33 [sv] :: Rw 38 4 sv (acc.map (toWk st sh)).length ((acc.map (toWk st sh)).flatMap kc) :: L) w) : D w0 (Tm l r0 G bo st sh acc :: L) w :=
  D.mk_ex (A := fun sv => sat [pts l (.loop r0), G, cel bo 33 [sv], Rw 38 4 sv (acc.map (toWk st sh)).length ((acc.map (toWk st sh)).flatMap kc)]) sv (D.close (M := [_, _, _, _]) d)
end
/-- One more is told. -/
theorem tm_app {st sh : Int} {acc : List (Wt × Nat)} {x : Wt} {i : Nat} {F : List HP} (hacc : acc.length < 65536)
    (d : D w0 (Rw 38 4 sv (acc.map (toWk st sh)).length ((acc.map (toWk st sh)).flatMap kc) :: cel b 38 [.int .i64 x.th, .int .i64 i, .int .i64 st, .int .i64 sh] :: F) w)
    (k : ∀ sv' w', D w0 (Rw 38 4 sv' ((acc ++ [(x, i)]).map (toWk st sh)).length (((acc ++ [(x, i)]).map (toWk st sh)).flatMap kc) :: F) w' → K sv' w') : AppC 38 4 32 #[.int .i64 0, .int .i64 0, .int .i64 0, .int .i64 0] sv (.slice (some ⟨b, 0, none⟩) 1 1) K w := by
  refine d_app (m := 1) d (src_of (gc1 d) rfl (ones rfl) 1) rfl (by omega) (by rw [List.length_map]; omega) (by rw [List.length_map]; omega) (ones rfl) fun sv' w d => k sv' w ?_
  rw [List.map_append, List.length_append, List.flatMap_append]
  exact d.tail2
/-- Who is told, and what is left. -/
def telS (o : Int) (p : It → Bool) (st sh : Int) (S : List Wt) : List Wk := (ons o p S).map (toWk st sh)
theorem telS_len {o : Int} {p : It → Bool} {st sh : Int} {S : List Wt} : (telS o p st sh S).length ≤ S.length := by
  unfold telS ons
  rw [List.length_map]; exact List.length_filterMap_le _ _
theorem Tell_ok {o sh : Int} (hS : S.length ≤ 65536) (hit : ∀ x ∈ S, x.it.length ≤ 1048576) (d : D w0 (Ws b most S :: L) w)
    (k : ∀ sv' w', D w0 (Ws b most (drAll (telS o (fun y => !decide (iand .i64 sh y.m = 0)) 0 sh S) S) :: Rw 38 4 sv' (telS o (fun y => !decide (iand .i64 sh y.m = 0)) 0 sh S).length ((telS o (fun y => !decide (iand .i64 sh y.m = 0)) 0 sh S).flatMap kc) :: L) w' → K sv' w') :
    Cl pg 13 #[.pointer (some ⟨b, 0, none⟩), .int .i64 o, .int .i64 sh] K w := by
  refine V.waits_Waits_Tell_ok ?_
  unfold V.waits_Waits_Tell
  simp only [cells_int]
  refine d_new _ d fun bs w d => ?_
  refine d_new _ d fun bo w d => ?_
  refine fn30 (fun _ _ => rfl) (V.waits_Waits_on_ok ?_)
  unfold V.waits_Waits_on
  simp only [cells_int, cells_ptr, cells_fn]
  refine d_new _ d fun b1 w d => ?_
  refine d_new _ d fun b2 w d => ?_
  refine d_new _ d fun b3 w d => ?_
  refine d_rf0 (fun _ _ => rfl) d fun m l r0 w hr hp hro d => ?_
  have d0 : D w0 (Rw 38 4 (.slice none 0 0) 0 [] :: _) w := ⟨Rw.nil _ _ d.1, d.2⟩
  have d := Tm.mk (acc := []) (st := 0) (sh := sh) (D.sel [1, 7, 6, 0] d0)
  have d := D.sel [0, 4, 3, 2, 5] d
  refine on_ok (p := fun y => !decide (iand .i64 sh y.m = 0)) (Tm l r0 _ bo 0 sh) hS hit ?_ ?_ d fun w d => ?_
  · intro acc y F w K d k
    obtain ⟨sv, d⟩ := Tm.out d
    refine fn11 (fun _ _ => rfl) (V.waits_Waits_Tell_c1_ok ?_)
    unfold V.waits_Waits_Tell_c1
    repeat (first | (simp +decide only [SEM]) | (apply ldm d; (focus ((repeat (first | exact .h _ | refine .t _ _ ?_)); done)); (focus rfl)) | (apply lam d; (focus ((repeat (first | exact .h _ | refine .t _ _ ?_)); done)); (focus rfl)) | (((repeat (refine bld_c rfl rfl (by simp) ?_; simp only [List.set_cons_zero, List.set_cons_succ])); refine bld_n ?_)) | (refine d_new _ d fun bn w d => ?_) | ((first | refine bsl1 (by first | rfl | (simp only [cells_agg, cells_int, cells_bool, cells_ptr, cells_sl, cells_map, cells_fn, List.drop_succ_cons, List.drop_zero, List.take_succ_cons, List.take_zero, Nat.zero_add, Nat.reduceAdd, Int.toNat_natCast, Int.toNat_zero]; rfl)) rfl d (by decide) (by decide) fun bn w d => ?_ | refine bsl2 rfl rfl d fun bn w d => ?_ | refine bsl0 d fun bn w d => ?_)) | (first | refine drw d fun w d => ?_ | refine qt d ?_ | refine qe_nil ?_ | refine qe_fa ?_ | refine qe_len ?_ | (apply qlm; (focus ((repeat (first | exact .h _ | refine .t _ _ ?_)); done)); (focus rfl)) | (apply qam; (focus ((repeat (first | exact .h _ | refine .t _ _ ?_)); done)); (focus rfl)) | refine qe _ (fun w d => by ((repeat (refine bld_c rfl rfl (by simp) ?_; simp only [List.set_cons_zero, List.set_cons_succ])); refine bld_n ?_); exact ⟨rfl, rfl⟩) ?_ | refine qe_ext rfl ?_) | (apply swm d; (focus ((repeat (first | exact .h _ | apply Rp.t)); done)); (focus rfl); (focus rfl); (focus exact ones rfl); intro w d; simp only [SPL] at d) | (apply stm d; (focus ((repeat (first | exact .h _ | apply Rp.t)); done)); (focus rfl); (focus simp); (focus exact ones rfl); intro w d; simp only [SPL] at d) | (apply lpm d; (focus ((repeat (first | exact .h _ | refine .t _ _ ?_)); done)); (focus (simp only [SEM]; rfl)); (focus rfl)))
    refine fn20 (fun _ _ => rfl) (V.signal_Set_Meets_ok ?_)
    unfold V.signal_Set_Meets
    repeat (first | (simp +decide only [SEM]) | (apply ldm d; (focus ((repeat (first | exact .h _ | refine .t _ _ ?_)); done)); (focus rfl)) | (apply lam d; (focus ((repeat (first | exact .h _ | refine .t _ _ ?_)); done)); (focus rfl)) | (((repeat (refine bld_c rfl rfl (by simp) ?_; simp only [List.set_cons_zero, List.set_cons_succ])); refine bld_n ?_)) | (refine d_new _ d fun bn w d => ?_) | ((first | refine bsl1 (by first | rfl | (simp only [cells_agg, cells_int, cells_bool, cells_ptr, cells_sl, cells_map, cells_fn, List.drop_succ_cons, List.drop_zero, List.take_succ_cons, List.take_zero, Nat.zero_add, Nat.reduceAdd, Int.toNat_natCast, Int.toNat_zero]; rfl)) rfl d (by decide) (by decide) fun bn w d => ?_ | refine bsl2 rfl rfl d fun bn w d => ?_ | refine bsl0 d fun bn w d => ?_)) | (first | refine drw d fun w d => ?_ | refine qt d ?_ | refine qe_nil ?_ | refine qe_fa ?_ | refine qe_len ?_ | (apply qlm; (focus ((repeat (first | exact .h _ | refine .t _ _ ?_)); done)); (focus rfl)) | (apply qam; (focus ((repeat (first | exact .h _ | refine .t _ _ ?_)); done)); (focus rfl)) | refine qe _ (fun w d => by ((repeat (refine bld_c rfl rfl (by simp) ?_; simp only [List.set_cons_zero, List.set_cons_succ])); refine bld_n ?_); exact ⟨rfl, rfl⟩) ?_ | refine qe_ext rfl ?_) | (apply swm d; (focus ((repeat (first | exact .h _ | apply Rp.t)); done)); (focus rfl); (focus rfl); (focus exact ones rfl); intro w d; simp only [SPL] at d) | (apply stm d; (focus ((repeat (first | exact .h _ | apply Rp.t)); done)); (focus rfl); (focus simp); (focus exact ones rfl); intro w d; simp only [SPL] at d) | (apply lpm d; (focus ((repeat (first | exact .h _ | refine .t _ _ ?_)); done)); (focus (simp only [SEM]; rfl)); (focus rfl)))
    exact k _ (Tm.mk d.tail)
  · intro acc x i F w K hacc hx hi d k
    obtain ⟨sv, d⟩ := Tm.out d
    obtain ⟨q, c, hsv⟩ := hx
    refine y_ok (args := [.agg (wc x).toArray, .int .i64 i]) hro d ?_
    simp only [UN, UNe]
    refine d_new _ d fun bx w d => ?_
    refine stw0 d rfl rfl (by simp only [cells_agg]; exact wc_one ⟨_, _, hsv⟩) fun w d => ?_
    simp only [cells_agg, List.toList_toArray] at d
    refine d_beg (D.swap d) hr fun w d => ?_
    repeat (first | (simp +decide only [SEM]) | (apply ldm d; (focus ((repeat (first | exact .h _ | refine .t _ _ ?_)); done)); (focus rfl)) | (apply lam d; (focus ((repeat (first | exact .h _ | refine .t _ _ ?_)); done)); (focus rfl)) | (((repeat (refine bld_c rfl rfl (by simp) ?_; simp only [List.set_cons_zero, List.set_cons_succ])); refine bld_n ?_)) | (refine d_new _ d fun bn w d => ?_) | ((first | refine bsl1 (by first | rfl | (simp only [cells_agg, cells_int, cells_bool, cells_ptr, cells_sl, cells_map, cells_fn, List.drop_succ_cons, List.drop_zero, List.take_succ_cons, List.take_zero, Nat.zero_add, Nat.reduceAdd, Int.toNat_natCast, Int.toNat_zero]; rfl)) rfl d (by decide) (by decide) fun bn w d => ?_ | refine bsl2 rfl rfl d fun bn w d => ?_ | refine bsl0 d fun bn w d => ?_)) | (first | refine drw d fun w d => ?_ | refine qt d ?_ | refine qe_nil ?_ | refine qe_fa ?_ | refine qe_len ?_ | (apply qlm; (focus ((repeat (first | exact .h _ | refine .t _ _ ?_)); done)); (focus rfl)) | (apply qam; (focus ((repeat (first | exact .h _ | refine .t _ _ ?_)); done)); (focus rfl)) | refine qe _ (fun w d => by ((repeat (refine bld_c rfl rfl (by simp) ?_; simp only [List.set_cons_zero, List.set_cons_succ])); refine bld_n ?_); exact ⟨rfl, rfl⟩) ?_ | refine qe_ext rfl ?_) | (apply swm d; (focus ((repeat (first | exact .h _ | apply Rp.t)); done)); (focus rfl); (focus rfl); (focus exact ones rfl); intro w d; simp only [SPL] at d) | (apply stm d; (focus ((repeat (first | exact .h _ | apply Rp.t)); done)); (focus rfl); (focus simp); (focus exact ones rfl); intro w d; simp only [SPL] at d) | (apply lpm d; (focus ((repeat (first | exact .h _ | refine .t _ _ ?_)); done)); (focus (simp only [SEM]; rfl)); (focus rfl)))
    refine tm_app (x := x) (i := i) hacc (D.sel [5, 0] d) fun sv' w d => ?_
    obtain ⟨q4, c4, rfl, -⟩ := Rw.shape d.1
    repeat (first | (simp +decide only [SEM]) | (apply ldm d; (focus ((repeat (first | exact .h _ | refine .t _ _ ?_)); done)); (focus rfl)) | (apply lam d; (focus ((repeat (first | exact .h _ | refine .t _ _ ?_)); done)); (focus rfl)) | (((repeat (refine bld_c rfl rfl (by simp) ?_; simp only [List.set_cons_zero, List.set_cons_succ])); refine bld_n ?_)) | (refine d_new _ d fun bn w d => ?_) | ((first | refine bsl1 (by first | rfl | (simp only [cells_agg, cells_int, cells_bool, cells_ptr, cells_sl, cells_map, cells_fn, List.drop_succ_cons, List.drop_zero, List.take_succ_cons, List.take_zero, Nat.zero_add, Nat.reduceAdd, Int.toNat_natCast, Int.toNat_zero]; rfl)) rfl d (by decide) (by decide) fun bn w d => ?_ | refine bsl2 rfl rfl d fun bn w d => ?_ | refine bsl0 d fun bn w d => ?_)) | (first | refine drw d fun w d => ?_ | refine qt d ?_ | refine qe_nil ?_ | refine qe_fa ?_ | refine qe_len ?_ | (apply qlm; (focus ((repeat (first | exact .h _ | refine .t _ _ ?_)); done)); (focus rfl)) | (apply qam; (focus ((repeat (first | exact .h _ | refine .t _ _ ?_)); done)); (focus rfl)) | refine qe _ (fun w d => by ((repeat (refine bld_c rfl rfl (by simp) ?_; simp only [List.set_cons_zero, List.set_cons_succ])); refine bld_n ?_); exact ⟨rfl, rfl⟩) ?_ | refine qe_ext rfl ?_) | (apply swm d; (focus ((repeat (first | exact .h _ | apply Rp.t)); done)); (focus rfl); (focus rfl); (focus exact ones rfl); intro w d; simp only [SPL] at d) | (apply stm d; (focus ((repeat (first | exact .h _ | apply Rp.t)); done)); (focus rfl); (focus simp); (focus exact ones rfl); intro w d; simp only [SPL] at d) | (apply lpm d; (focus ((repeat (first | exact .h _ | refine .t _ _ ?_)); done)); (focus (simp only [SEM]; rfl)); (focus rfl)))
    refine d_end0 (D.sel [1] d) fun w d => k _ ?_
    rw [loop_eta hr hp] at d
    exact Tm.mk (D.tail (D.sel [2, 0, 3, 4, 1] d))
  · obtain ⟨sv, d⟩ := Tm.out d
    refine ⟨r0, _, d, sameLp.refl r0, by rw [hr]; simp, fun w d => ?_⟩
    rw [hp]
    simp only [JumpC]
    repeat (first | (simp +decide only [SEM]) | (apply ldm d; (focus ((repeat (first | exact .h _ | refine .t _ _ ?_)); done)); (focus rfl)) | (apply lam d; (focus ((repeat (first | exact .h _ | refine .t _ _ ?_)); done)); (focus rfl)) | (((repeat (refine bld_c rfl rfl (by simp) ?_; simp only [List.set_cons_zero, List.set_cons_succ])); refine bld_n ?_)) | (refine d_new _ d fun bn w d => ?_) | ((first | refine bsl1 (by first | rfl | (simp only [cells_agg, cells_int, cells_bool, cells_ptr, cells_sl, cells_map, cells_fn, List.drop_succ_cons, List.drop_zero, List.take_succ_cons, List.take_zero, Nat.zero_add, Nat.reduceAdd, Int.toNat_natCast, Int.toNat_zero]; rfl)) rfl d (by decide) (by decide) fun bn w d => ?_ | refine bsl2 rfl rfl d fun bn w d => ?_ | refine bsl0 d fun bn w d => ?_)) | (first | refine drw d fun w d => ?_ | refine qt d ?_ | refine qe_nil ?_ | refine qe_fa ?_ | refine qe_len ?_ | (apply qlm; (focus ((repeat (first | exact .h _ | refine .t _ _ ?_)); done)); (focus rfl)) | (apply qam; (focus ((repeat (first | exact .h _ | refine .t _ _ ?_)); done)); (focus rfl)) | refine qe _ (fun w d => by ((repeat (refine bld_c rfl rfl (by simp) ?_; simp only [List.set_cons_zero, List.set_cons_succ])); refine bld_n ?_); exact ⟨rfl, rfl⟩) ?_ | refine qe_ext rfl ?_) | (apply swm d; (focus ((repeat (first | exact .h _ | apply Rp.t)); done)); (focus rfl); (focus rfl); (focus exact ones rfl); intro w d; simp only [SPL] at d) | (apply stm d; (focus ((repeat (first | exact .h _ | apply Rp.t)); done)); (focus rfl); (focus simp); (focus exact ones rfl); intro w d; simp only [SPL] at d) | (apply lpm d; (focus ((repeat (first | exact .h _ | refine .t _ _ ?_)); done)); (focus (simp only [SEM]; rfl)); (focus rfl)))
    refine fn20 (fun _ _ => rfl) (wake_ok (l := telS o (fun y => !decide (iand .i64 sh y.m = 0)) 0 sh S) hS (Nat.le_trans telS_len (by omega)) (D.sel [6, 2] d) fun w d => ?_)
    refine d_lv1 (D.sel [7] d) fun w d => ?_
    exact k _ _ (D.sel [2, 3, 4, 5, 6] d).tail.tail.tail.tail.tail
theorem Cancel_ok {o : Int} (hS : S.length ≤ 65536) (hit : ∀ x ∈ S, x.it.length ≤ 1048576) (d : D w0 (Ws b most S :: L) w)
    (k : ∀ sv' w', D w0 (Ws b most (drAll (telS o (fun _ => true) (-23) 0 S) S) :: Rw 38 4 sv' (telS o (fun _ => true) (-23) 0 S).length ((telS o (fun _ => true) (-23) 0 S).flatMap kc) :: L) w' → K sv' w') :
    Cl pg 16 #[.pointer (some ⟨b, 0, none⟩), .int .i64 o] K w := by
  refine V.waits_Waits_Cancel_ok ?_
  unfold V.waits_Waits_Cancel
  refine d_new _ d fun bs w d => ?_
  have d : D w0 (sat [] :: cel bs 33 [.slice none 0 0] :: Ws b most S :: L) w := D.close (M := []) d
  refine fn30 (fun _ _ => rfl) (V.waits_Waits_on_ok ?_)
  unfold V.waits_Waits_on
  simp only [cells_int, cells_ptr, cells_fn]
  refine d_new _ d fun b1 w d => ?_
  refine d_new _ d fun b2 w d => ?_
  refine d_new _ d fun b3 w d => ?_
  refine d_rf0 (fun _ _ => rfl) d fun m l r0 w hr hp hro d => ?_
  have d0 : D w0 (Rw 38 4 (.slice none 0 0) 0 [] :: _) w := ⟨Rw.nil _ _ d.1, d.2⟩
  have d := Tm.mk (acc := []) (st := -23) (sh := 0) (G := sat []) (D.sel [1, 6, 7, 0] d0)
  have d := D.sel [0, 4, 3, 2, 5] d
  refine on_ok (p := fun y => true) (Tm l r0 _ bs (-23) 0) hS hit ?_ ?_ d fun w d => ?_
  · intro acc y F w K d k
    refine fn10 (fun _ _ => rfl) (V.waits_Waits_Cancel_c1_ok ?_)
    unfold V.waits_Waits_Cancel_c1
    repeat (first | (simp +decide only [SEM]) | (apply ldm d; (focus ((repeat (first | exact .h _ | refine .t _ _ ?_)); done)); (focus rfl)) | (apply lam d; (focus ((repeat (first | exact .h _ | refine .t _ _ ?_)); done)); (focus rfl)) | (((repeat (refine bld_c rfl rfl (by simp) ?_; simp only [List.set_cons_zero, List.set_cons_succ])); refine bld_n ?_)) | (refine d_new _ d fun bn w d => ?_) | ((first | refine bsl1 (by first | rfl | (simp only [cells_agg, cells_int, cells_bool, cells_ptr, cells_sl, cells_map, cells_fn, List.drop_succ_cons, List.drop_zero, List.take_succ_cons, List.take_zero, Nat.zero_add, Nat.reduceAdd, Int.toNat_natCast, Int.toNat_zero]; rfl)) rfl d (by decide) (by decide) fun bn w d => ?_ | refine bsl2 rfl rfl d fun bn w d => ?_ | refine bsl0 d fun bn w d => ?_)) | (first | refine drw d fun w d => ?_ | refine qt d ?_ | refine qe_nil ?_ | refine qe_fa ?_ | refine qe_len ?_ | (apply qlm; (focus ((repeat (first | exact .h _ | refine .t _ _ ?_)); done)); (focus rfl)) | (apply qam; (focus ((repeat (first | exact .h _ | refine .t _ _ ?_)); done)); (focus rfl)) | refine qe _ (fun w d => by ((repeat (refine bld_c rfl rfl (by simp) ?_; simp only [List.set_cons_zero, List.set_cons_succ])); refine bld_n ?_); exact ⟨rfl, rfl⟩) ?_ | refine qe_ext rfl ?_) | (apply swm d; (focus ((repeat (first | exact .h _ | apply Rp.t)); done)); (focus rfl); (focus rfl); (focus exact ones rfl); intro w d; simp only [SPL] at d) | (apply stm d; (focus ((repeat (first | exact .h _ | apply Rp.t)); done)); (focus rfl); (focus simp); (focus exact ones rfl); intro w d; simp only [SPL] at d) | (apply lpm d; (focus ((repeat (first | exact .h _ | refine .t _ _ ?_)); done)); (focus (simp only [SEM]; rfl)); (focus rfl)))
    exact k _ d.tail
  · intro acc x i F w K hacc hx hi d k
    obtain ⟨sv, d⟩ := Tm.out d
    obtain ⟨q, c, hsv⟩ := hx
    refine y_ok (args := [.agg (wc x).toArray, .int .i64 i]) hro d ?_
    simp only [UN, UNe]
    refine d_new _ d fun bx w d => ?_
    refine stw0 d rfl rfl (by simp only [cells_agg]; exact wc_one ⟨_, _, hsv⟩) fun w d => ?_
    simp only [cells_agg, List.toList_toArray] at d
    refine d_beg (D.swap d) hr fun w d => ?_
    repeat (first | (simp +decide only [SEM]) | (apply ldm d; (focus ((repeat (first | exact .h _ | refine .t _ _ ?_)); done)); (focus rfl)) | (apply lam d; (focus ((repeat (first | exact .h _ | refine .t _ _ ?_)); done)); (focus rfl)) | (((repeat (refine bld_c rfl rfl (by simp) ?_; simp only [List.set_cons_zero, List.set_cons_succ])); refine bld_n ?_)) | (refine d_new _ d fun bn w d => ?_) | ((first | refine bsl1 (by first | rfl | (simp only [cells_agg, cells_int, cells_bool, cells_ptr, cells_sl, cells_map, cells_fn, List.drop_succ_cons, List.drop_zero, List.take_succ_cons, List.take_zero, Nat.zero_add, Nat.reduceAdd, Int.toNat_natCast, Int.toNat_zero]; rfl)) rfl d (by decide) (by decide) fun bn w d => ?_ | refine bsl2 rfl rfl d fun bn w d => ?_ | refine bsl0 d fun bn w d => ?_)) | (first | refine drw d fun w d => ?_ | refine qt d ?_ | refine qe_nil ?_ | refine qe_fa ?_ | refine qe_len ?_ | (apply qlm; (focus ((repeat (first | exact .h _ | refine .t _ _ ?_)); done)); (focus rfl)) | (apply qam; (focus ((repeat (first | exact .h _ | refine .t _ _ ?_)); done)); (focus rfl)) | refine qe _ (fun w d => by ((repeat (refine bld_c rfl rfl (by simp) ?_; simp only [List.set_cons_zero, List.set_cons_succ])); refine bld_n ?_); exact ⟨rfl, rfl⟩) ?_ | refine qe_ext rfl ?_) | (apply swm d; (focus ((repeat (first | exact .h _ | apply Rp.t)); done)); (focus rfl); (focus rfl); (focus exact ones rfl); intro w d; simp only [SPL] at d) | (apply stm d; (focus ((repeat (first | exact .h _ | apply Rp.t)); done)); (focus rfl); (focus simp); (focus exact ones rfl); intro w d; simp only [SPL] at d) | (apply lpm d; (focus ((repeat (first | exact .h _ | refine .t _ _ ?_)); done)); (focus (simp only [SEM]; rfl)); (focus rfl)))
    refine tm_app (x := x) (i := i) hacc (D.sel [5, 0] d) fun sv' w d => ?_
    obtain ⟨q4, c4, rfl, -⟩ := Rw.shape d.1
    repeat (first | (simp +decide only [SEM]) | (apply ldm d; (focus ((repeat (first | exact .h _ | refine .t _ _ ?_)); done)); (focus rfl)) | (apply lam d; (focus ((repeat (first | exact .h _ | refine .t _ _ ?_)); done)); (focus rfl)) | (((repeat (refine bld_c rfl rfl (by simp) ?_; simp only [List.set_cons_zero, List.set_cons_succ])); refine bld_n ?_)) | (refine d_new _ d fun bn w d => ?_) | ((first | refine bsl1 (by first | rfl | (simp only [cells_agg, cells_int, cells_bool, cells_ptr, cells_sl, cells_map, cells_fn, List.drop_succ_cons, List.drop_zero, List.take_succ_cons, List.take_zero, Nat.zero_add, Nat.reduceAdd, Int.toNat_natCast, Int.toNat_zero]; rfl)) rfl d (by decide) (by decide) fun bn w d => ?_ | refine bsl2 rfl rfl d fun bn w d => ?_ | refine bsl0 d fun bn w d => ?_)) | (first | refine drw d fun w d => ?_ | refine qt d ?_ | refine qe_nil ?_ | refine qe_fa ?_ | refine qe_len ?_ | (apply qlm; (focus ((repeat (first | exact .h _ | refine .t _ _ ?_)); done)); (focus rfl)) | (apply qam; (focus ((repeat (first | exact .h _ | refine .t _ _ ?_)); done)); (focus rfl)) | refine qe _ (fun w d => by ((repeat (refine bld_c rfl rfl (by simp) ?_; simp only [List.set_cons_zero, List.set_cons_succ])); refine bld_n ?_); exact ⟨rfl, rfl⟩) ?_ | refine qe_ext rfl ?_) | (apply swm d; (focus ((repeat (first | exact .h _ | apply Rp.t)); done)); (focus rfl); (focus rfl); (focus exact ones rfl); intro w d; simp only [SPL] at d) | (apply stm d; (focus ((repeat (first | exact .h _ | apply Rp.t)); done)); (focus rfl); (focus simp); (focus exact ones rfl); intro w d; simp only [SPL] at d) | (apply lpm d; (focus ((repeat (first | exact .h _ | refine .t _ _ ?_)); done)); (focus (simp only [SEM]; rfl)); (focus rfl)))
    refine d_end0 (D.sel [1] d) fun w d => k _ ?_
    rw [loop_eta hr hp] at d
    exact Tm.mk (D.tail (D.sel [2, 0, 3, 4, 1] d))
  · obtain ⟨sv, d⟩ := Tm.out d
    refine ⟨r0, _, d, sameLp.refl r0, by rw [hr]; simp, fun w d => ?_⟩
    rw [hp]
    simp only [JumpC]
    repeat (first | (simp +decide only [SEM]) | (apply ldm d; (focus ((repeat (first | exact .h _ | refine .t _ _ ?_)); done)); (focus rfl)) | (apply lam d; (focus ((repeat (first | exact .h _ | refine .t _ _ ?_)); done)); (focus rfl)) | (((repeat (refine bld_c rfl rfl (by simp) ?_; simp only [List.set_cons_zero, List.set_cons_succ])); refine bld_n ?_)) | (refine d_new _ d fun bn w d => ?_) | ((first | refine bsl1 (by first | rfl | (simp only [cells_agg, cells_int, cells_bool, cells_ptr, cells_sl, cells_map, cells_fn, List.drop_succ_cons, List.drop_zero, List.take_succ_cons, List.take_zero, Nat.zero_add, Nat.reduceAdd, Int.toNat_natCast, Int.toNat_zero]; rfl)) rfl d (by decide) (by decide) fun bn w d => ?_ | refine bsl2 rfl rfl d fun bn w d => ?_ | refine bsl0 d fun bn w d => ?_)) | (first | refine drw d fun w d => ?_ | refine qt d ?_ | refine qe_nil ?_ | refine qe_fa ?_ | refine qe_len ?_ | (apply qlm; (focus ((repeat (first | exact .h _ | refine .t _ _ ?_)); done)); (focus rfl)) | (apply qam; (focus ((repeat (first | exact .h _ | refine .t _ _ ?_)); done)); (focus rfl)) | refine qe _ (fun w d => by ((repeat (refine bld_c rfl rfl (by simp) ?_; simp only [List.set_cons_zero, List.set_cons_succ])); refine bld_n ?_); exact ⟨rfl, rfl⟩) ?_ | refine qe_ext rfl ?_) | (apply swm d; (focus ((repeat (first | exact .h _ | apply Rp.t)); done)); (focus rfl); (focus rfl); (focus exact ones rfl); intro w d; simp only [SPL] at d) | (apply stm d; (focus ((repeat (first | exact .h _ | apply Rp.t)); done)); (focus rfl); (focus simp); (focus exact ones rfl); intro w d; simp only [SPL] at d) | (apply lpm d; (focus ((repeat (first | exact .h _ | refine .t _ _ ?_)); done)); (focus (simp only [SEM]; rfl)); (focus rfl)))
    refine fn20 (fun _ _ => rfl) (wake_ok (l := telS o (fun _ => true) (-23) 0 S) hS (Nat.le_trans telS_len (by omega)) (D.sel [6, 2] d) fun w d => ?_)
    refine d_lv1 (D.sel [7] d) fun w d => ?_
    exact k _ _ (D.sel [2, 3, 4, 5, 6] d).tail.tail.tail.tail.tail
end
end Go.Proofs.Ythjkmgckkacegaa
