/- Handles: the reference's table: duplicating, replacing, taking, all of them. -/
import Derived.Test.YtgcnebacjkpfmaaHt
import Derived.Test.YtgcnebacjkpfmaaHh
set_option maxRecDepth 100000
set_option maxHeartbeats 4000000
namespace Go.Proofs.Ytgcnebacjkpfmaa
open Go Go.Jac
def nc (x : Int) : List Value := [.int .i64 x]
theorem nc_len (x : Int) : (nc x).length = 1 := rfl
theorem ints_nc (l : List Int) : ints l = l.flatMap nc := flat_map1 _ l
theorem clx_some {S : List Slot} {v : Int} {p : Nat} (hl : look S v = some p) (hp : p < S.length) : clx S v = S[p] := by unfold clx; rw [hl]; simp [hp]
theorem clo_some {S : List Slot} {v : Int} {p : Nat} (hl : look S v = some p) : clo S v = S.set p ⟨0, 0, 0, 0⟩ := by unfold clo; rw [hl]
/-- What duplicating gives. -/
def dupR (cap : Int) (S : List Slot) (v want dr : Int) : Int × Int × List Slot :=
  if look S v = none then (0, -11, S) else if findS (clx S v) 0 1 ≠ 0 then (0, findS (clx S v) 0 1, S) else if redS (clx S v).r want ≠ 0 then (0, redS (clx S v).r want, S) else if cnt S = cap then (0, -4, S)
  else (hval (fre S) dr, 0, adS S ⟨hval (fre S) dr, (clx S v).o, (clx S v).k, redR (clx S v).r want⟩)
/-- What replacing gives. -/
def rplR (S : List Slot) (v want dr : Int) : Int × Slot × Int × List Slot :=
  if look S v = none then (0, ⟨0, 0, 0, 0⟩, -11, S) else if redS (clx S v).r want ≠ 0 then (0, clx S v, redS (clx S v).r want, clo S v)
  else (hval (fre (clo S v)) dr, ⟨0, 0, 0, 0⟩, 0, adS (clo S v) ⟨hval (fre (clo S v)) dr, (clx S v).o, (clx S v).k, redR (clx S v).r want⟩)
section
variable {w0 w : World} {L : List HP} {K : Value → WP} {b c : Nat} {cap : Int} {S : List Slot} {sv se : Value} {l : List Int}
theorem Duplicate_r {v want dr : Int} (hv : I64 v) (hS : TOk cap S) (d : D w0 (Tb b cap S :: L) w)
    (k : ∀ w', D w0 (Tb b cap (dupR cap S v want dr).2.2 :: L) w' → K (.tuple #[.int .i64 (dupR cap S v want dr).1, .int .i64 (dupR cap S v want dr).2.1]) w') :
    Cl pg 22 #[.pointer (some ⟨b, 0, none⟩), .int .i64 v, .int .i64 want, .int .i64 dr] K w := by
  refine Duplicate_ok hv hS d (fun s w' hs h d' => ?_) fun p hp hl hf hr hc w' d' => ?_
  · have e : dupR cap S v want dr = (0, s, S) := by
      unfold dupR
      rcases h with ⟨h1, h2⟩ | ⟨p, hp, hl, h⟩
      · rw [if_pos h1, h2]
      · rw [if_neg (by rw [hl]; simp), clx_some hl hp]
        rcases h with ⟨h1, h2⟩ | ⟨h1, h2, h3⟩ | ⟨h1, h2, h3, h4⟩
        · rw [if_pos h1, h2]
        · rw [if_neg (fun h => h h1), if_pos h2, h3]
        · rw [if_neg (fun h => h h1), if_neg (fun h => h h2), if_pos h3, h4]
    rw [e] at k
    exact k w' d'
  · have e : dupR cap S v want dr = (hval (fre S) dr, 0, adS S ⟨hval (fre S) dr, S[p].o, S[p].k, redR S[p].r want⟩) := by
      unfold dupR
      rw [if_neg (by rw [hl]; simp), clx_some hl hp, if_neg (fun h => h hf), if_neg (fun h => h hr), if_neg hc]
    simp only [e] at k
    exact k w' d'
theorem Replace_r {v want dr : Int} (hv : I64 v) (hS : TOk cap S) (d : D w0 (Tb b cap S :: L) w)
    (k : ∀ w', D w0 (Tb b cap (rplR S v want dr).2.2.2 :: L) w' → K (.tuple #[.int .i64 (rplR S v want dr).1, (rplR S v want dr).2.1.ent, .int .i64 (rplR S v want dr).2.2.1]) w') :
    Cl pg 24 #[.pointer (some ⟨b, 0, none⟩), .int .i64 v, .int .i64 want, .int .i64 dr] K w := by
  refine Replace_ok hv hS d (fun hl w' d' => ?_) (fun p hp hl hr hT w' d' => ?_) fun p hp hl hr hT hc w' d' => ?_
  · have e : rplR S v want dr = (0, ⟨0, 0, 0, 0⟩, -11, S) := by unfold rplR; rw [if_pos hl]
    rw [e] at k
    exact k w' d'
  · have e : rplR S v want dr = (0, S[p], redS S[p].r want, S.set p ⟨0, 0, 0, 0⟩) := by
      unfold rplR
      rw [if_neg (by rw [hl]; simp), clx_some hl hp, if_pos hr, clo_some hl]
    rw [e] at k
    exact k w' d'
  · have e : rplR S v want dr = (hval (fre (S.set p ⟨0, 0, 0, 0⟩)) dr, ⟨0, 0, 0, 0⟩, 0, adS (S.set p ⟨0, 0, 0, 0⟩) ⟨hval (fre (S.set p ⟨0, 0, 0, 0⟩)) dr, S[p].o, S[p].k, redR S[p].r want⟩) := by
      unfold rplR
      rw [if_neg (by rw [hl]; simp), clx_some hl hp, if_neg (fun h => h hr), clo_some hl]
    simp only [e] at k
    exact k w' d'
theorem RFind_rt {v : Int} (hg : GInv S) (hS : S.length ≤ 65536) (d : D w0 (Rt c cap S :: L) w) (k : ∀ w', D w0 (Rt c cap S :: L) w' → K (.int .i64 (lk S v)) w') : Cl pg 51 #[.pointer (some ⟨c, 0, none⟩), .int .i64 v] K w := by
  obtain ⟨sv, se, d⟩ := Rt.out d
  obtain ⟨q, cq, rfl, -⟩ := Rw.shape d.swap.1
  exact RFind_ok hg hS d fun w d => k w (Rt.mk d)
theorem RDuplicate_ok {v want dr : Int} (hg : GInv S) (hdr : I64 dr) (hw : I64 want) (hS : TOk cap S) (d : D w0 (Rt c cap S :: L) w)
    (k : ∀ w', D w0 (Rt c cap (dupR cap S v want dr).2.2 :: L) w' → K (.tuple #[.int .i64 (dupR cap S v want dr).1, .int .i64 (dupR cap S v want dr).2.1]) w') :
    Cl pg 44 #[.pointer (some ⟨c, 0, none⟩), .int .i64 v, .int .i64 want, .int .i64 dr] K w := by
  refine V.jacinthref06_Table_Duplicate_ok ?_
  unfold V.jacinthref06_Table_Duplicate
  have hS1 := hS.1; have hS2 := hS.2
  refine fn40 (fun _ _ => rfl) (RLook_ok hg (by omega) d (fun hn w d => ?_) fun p hp hl w d => ?_)
  · have e : dupR cap S v want dr = (0, -11, S) := by unfold dupR; rw [if_pos hn]
    rw [e] at k
    simp only [ent]
    repeat (first | (simp +decide only [SEM]) | (refine d_new _ d fun bn w d => ?_) | (apply swm d; (focus ((repeat (first | exact .h _ | apply Rp.t)); done)); (focus rfl); (focus rfl); (focus exact ones rfl); intro w d; simp only [SPL] at d))
    exact k _ d.tail
  · have hn : ¬ look S v = none := by rw [hl]; simp
    have hx := clx_some hl hp
    generalize S[p] = x at hx d ⊢
    unfold dupR at k
    rw [if_neg hn, hx] at k
    by_cases hf : findS x 0 1 = 0
    · rw [if_neg (fun h => h hf)] at k
      rw [hf, if_pos rfl]
      obtain ⟨xv, xo, xk, xr⟩ := x
      simp only [Slot.ent, ent]
      repeat (first | (simp +decide only [SEM]) | (apply ldm d; (focus ((repeat (first | exact .h _ | refine .t _ _ ?_)); done)); (focus rfl)) | (refine d_new _ d fun bn w d => ?_) | (apply swm d; (focus ((repeat (first | exact .h _ | apply Rp.t)); done)); (focus rfl); (focus rfl); (focus exact ones rfl); intro w d; simp only [SPL] at d))
      generalize bn = be at d ⊢
      refine fn20 (fun _ _ => rfl) (RReduce_ok hw ?_)
      repeat (simp +decide only [SEM])
      refine ⟨fun h => ?_, fun h => ?_⟩
      · rw [if_pos h] at k
        exact k _ d.tail
      · rw [if_neg (fun h' => h' h)] at k
        repeat (first | (apply lam d; (focus ((repeat (first | exact .h _ | refine .t _ _ ?_)); done)); (focus rfl)) | (apply stm d; (focus ((repeat (first | exact .h _ | apply Rp.t)); done)); (focus rfl); (focus simp); (focus exact ones rfl); intro w d; simp only [SPL] at d))
        by_cases hc : cnt S = cap
        · rw [if_pos hc] at k
          refine fn30 (fun _ _ => rfl) (RAdd_full rfl hS hc (D.sel [1] d) fun w d => ?_)
          repeat (simp +decide only [SEM])
          exact k _ (d.sel [1]).tail
        · rw [if_neg hc] at k
          refine fn30 (fun _ _ => rfl) (RAdd_ok rfl hdr hS hc (D.sel [1] d) fun w d => ?_)
          repeat (simp +decide only [SEM])
          simp only at k
          exact k _ (d.sel [1]).tail
    · rw [if_pos hf] at k
      rw [if_neg hf]
      simp only [ent]
      repeat (first | (simp +decide only [SEM]) | (refine d_new _ d fun bn w d => ?_) | (apply swm d; (focus ((repeat (first | exact .h _ | apply Rp.t)); done)); (focus rfl); (focus rfl); (focus exact ones rfl); intro w d; simp only [SPL] at d))
      refine ⟨fun _ => k _ d.tail, fun h => absurd h hf⟩
theorem RReplace_ok {v want dr : Int} (hg : GInv S) (hdr : I64 dr) (hw : I64 want) (hS : TOk cap S) (d : D w0 (Rt c cap S :: L) w)
    (k : ∀ w', D w0 (Rt c cap (rplR S v want dr).2.2.2 :: L) w' → K (.tuple #[.int .i64 (rplR S v want dr).1, (rplR S v want dr).2.1.ent, .int .i64 (rplR S v want dr).2.2.1]) w') :
    Cl pg 45 #[.pointer (some ⟨c, 0, none⟩), .int .i64 v, .int .i64 want, .int .i64 dr] K w := by
  refine V.jacinthref06_Table_Replace_ok ?_
  unfold V.jacinthref06_Table_Replace
  have hS1 := hS.1; have hS2 := hS.2
  repeat (refine d_new _ d fun bn w d => ?_)
  generalize bn = b9 at d ⊢
  refine fn20 (fun _ _ => rfl) (RClose_any hg (by omega) (D.sel [1] d) fun w d => ?_)
  by_cases hn : look S v = none
  · have e : rplR S v want dr = (0, ⟨0, 0, 0, 0⟩, -11, S) := by unfold rplR; rw [if_pos hn]
    rw [e] at k
    rw [if_pos hn]
    rw [clo_none hn] at d
    simp only [Slot.ent, ent]
    repeat (first | (simp +decide only [SEM]) | (apply lam d; (focus ((repeat (first | exact .h _ | refine .t _ _ ?_)); done)); (focus rfl)) | (((repeat (refine bld_c rfl rfl (by simp) ?_; simp only [List.set_cons_zero, List.set_cons_succ])); refine bld_n ?_)) | (refine d_new _ d fun bn w d => ?_) | (apply swm d; (focus ((repeat (first | exact .h _ | apply Rp.t)); done)); (focus rfl); (focus rfl); (focus exact ones rfl); intro w d; simp only [SPL] at d))
    exact k _ (D.sel [0, 2, 1] d).tail.tail
  · obtain ⟨p, hl⟩ : ∃ p, look S v = some p := by
      cases h : look S v with
      | none => exact absurd h hn
      | some p => exact ⟨p, rfl⟩
    obtain ⟨hp, hpv, -⟩ := look_some hl
    have hT : TOk cap (clo S v) ∧ cnt (clo S v) ≠ cap := by
      rw [clo_some hl]
      have h1 := cnt_set hp ⟨0, 0, 0, 0⟩
      rw [if_pos (by rw [hpv]; exact look_ne hl), if_neg (by simp)] at h1
      have h2 := cnt_le S
      exact ⟨⟨by simp; omega, hS2⟩, by omega⟩
    rw [if_neg hn]
    unfold rplR at k
    rw [if_neg hn] at k
    generalize clx S v = x at d k ⊢
    obtain ⟨xv, xo, xk, xr⟩ := x
    simp only [Slot.ent, ent]
    repeat (first | (simp +decide only [SEM]) | (apply ldm d; (focus ((repeat (first | exact .h _ | refine .t _ _ ?_)); done)); (focus rfl)) | (refine d_new _ d fun bn w d => ?_) | (apply swm d; (focus ((repeat (first | exact .h _ | apply Rp.t)); done)); (focus rfl); (focus rfl); (focus exact ones rfl); intro w d; simp only [SPL] at d))
    generalize bn = b11 at d ⊢
    refine fn20 (fun _ _ => rfl) (RReduce_ok hw ?_)
    repeat (simp +decide only [SEM])
    refine ⟨fun h => ?_, fun h => ?_⟩
    · rw [if_pos h] at k
      repeat (first | refine drw d fun w d => ?_ | (apply lam d; (focus ((repeat (first | exact .h _ | refine .t _ _ ?_)); done)); (focus rfl)) | refine qt d ?_ | (apply qam; (focus ((repeat (first | exact .h _ | refine .t _ _ ?_)); done)); (focus rfl)) | (apply swm d; (focus ((repeat (first | exact .h _ | apply Rp.t)); done)); (focus rfl); (focus rfl); (focus exact ones rfl); intro w d; simp only [SPL] at d))
      exact k _ (D.sel [0, 2, 1] d).tail.tail
    · rw [if_neg (fun h' => h' h)] at k
      repeat (first | (apply lam d; (focus ((repeat (first | exact .h _ | refine .t _ _ ?_)); done)); (focus rfl)) | (apply stm d; (focus ((repeat (first | exact .h _ | apply Rp.t)); done)); (focus rfl); (focus simp); (focus exact ones rfl); intro w d; simp only [SPL] at d))
      refine fn30 (fun _ _ => rfl) (RAdd_ok rfl hdr hT.1 hT.2 (D.sel [1] d) fun w d => ?_)
      repeat (first | (simp +decide only [SEM]) | (apply lam d; (focus ((repeat (first | exact .h _ | refine .t _ _ ?_)); done)); (focus rfl)) | (((repeat (refine bld_c rfl rfl (by simp) ?_; simp only [List.set_cons_zero, List.set_cons_succ])); refine bld_n ?_)) | (apply swm d; (focus ((repeat (first | exact .h _ | apply Rp.t)); done)); (focus rfl); (focus rfl); (focus exact ones rfl); intro w d; simp only [SPL] at d))
      simp only at k
      exact k _ (D.sel [1, 2, 0] d).tail.tail
end
end Go.Proofs.Ytgcnebacjkpfmaa
