/- Timers: the reference's Set and Advance; the next one. -/
import Derived.Test.YthpkkbmiockloaaTo
set_option maxRecDepth 100000
set_option maxHeartbeats 8000000
namespace Go.Proofs.Ythpkkbmiockloaa
open Go Go.Jac
section
variable {w0 w : World} {L : List HP} {K : Value → WP} {b n : Nat} {most now : Int} {S M : List Te} {sv lv v : Value}
theorem tix_le (key : Int) (S : List Te) : -1 ≤ tix key S ∧ tix key S < S.length := by
  unfold tix fidx
  split
  · exact ⟨by omega, by omega⟩
  · exact ⟨by omega, by omega⟩
theorem RSet_ok {key dl : Int} (hS : S.length ≤ 65536) (d : D w0 (Tr b most now S :: L) w)
    (k1 : dl ≤ now → ∀ w', D w0 (Tr b most now (dropAt (tix key S) S) :: L) w' → K (.tuple #[.bool true, .int .i64 0]) w')
    (k2 : now < dl → 1099511627776 < dl → ∀ w', D w0 (Tr b most now S :: L) w' → K (.tuple #[.bool false, .int .i64 (-10)]) w')
    (k3 : now < dl → dl ≤ 1099511627776 → tix key S < 0 → most ≤ S.length → ∀ w', D w0 (Tr b most now S :: L) w' → K (.tuple #[.bool false, .int .i64 (-4)]) w')
    (k4 : now < dl → dl ≤ 1099511627776 → (0 ≤ tix key S ∨ S.length < most) → ∀ w', D w0 (Tr b most now (ins ⟨dl, key⟩ (dropAt (tix key S) S)) :: L) w' → K (.tuple #[.bool false, .int .i64 0]) w') :
    Cl pg 18 #[.pointer (some ⟨b, 0, none⟩), .int .i64 key, .int .i64 dl] K w := by
  refine V.jacinthref14_Timers_Set_ok ?_
  unfold V.jacinthref14_Timers_Set
  refine fn20 (fun _ _ => rfl) (RFind_ok hS d fun w d => ?_)
  have tail : ∀ w, D w0 (Tr b most now S :: L) w → now < dl → dl ≤ 1099511627776 → (0 ≤ tix key S ∨ S.length < most) → SetTail (.pointer (some ⟨b, 0, none⟩)) (.int .i64 key) (.int .i64 dl) (.int .i64 (tix key S)) K w := fun w d h1 h2 h3 => settail_ok hS d fun w' d' => k4 h1 h2 h3 w' d'
  obtain ⟨v, d⟩ := Tr.out d
  obtain ⟨q, c, rfl, -⟩ := Ro.shape d.swap
  repeat (first | (simp +decide only [SEM]) | (apply ldm d; (focus ((repeat (first | exact .h _ | refine .t _ _ ?_)); done)); (focus rfl)))
  refine ⟨fun h1 => fn20 (fun _ _ => rfl) (RDrop_ok hS (Tr.mk d) fun w d => ?_), fun h1 => ?_⟩
  · skip
    exact k1 h1 _ d
  · skip
    refine ⟨fun h2 => k2 (by omega) h2 _ (Tr.mk d), fun h2 => ?_⟩
    repeat (first | refine drw d fun w d => ?_ | (simp +decide only [SEM]) | refine qt d ?_)
    refine ⟨fun h3 => ?_, fun h3 => ?_⟩
    · repeat (first | (simp +decide only [SEM]) | refine qe_nil ?_ | refine qe_len ?_ | (apply qlm; (focus ((repeat (first | exact .h _ | refine .t _ _ ?_)); done)); (focus rfl)))
      refine ⟨fun h4 => k3 (by omega) (by omega) h3 h4 _ (Tr.mk d), fun h4 => ?_⟩
      exact tail _ (Tr.mk d) (by omega) (by omega) (.inr (by omega))
    · exact tail _ (Tr.mk d) (by omega) (by omega) (.inl (by omega))
theorem RAdv_ok {by_ : Int} (hS : S.length ≤ 65536) (hnow : 0 ≤ now ∧ now ≤ 1099511627776) (d : D w0 (Tr b most now S :: L) w)
    (k1 : (by_ < 0 ∨ 1099511627776 - now < by_) → ∀ w', D w0 (Tr b most now S :: L) w' → K (.tuple #[.slice none 0 0, .int .i64 (-10)]) w')
    (k2 : 0 ≤ by_ → by_ ≤ 1099511627776 - now → ∀ (P R : List Te) sv w', P ++ R = S → (∀ x ∈ P, x.dl ≤ now + by_) → (∀ x ∈ R.head?, now + by_ < x.dl) → D w0 (Rw 3 1 sv P.length (P.flatMap kyc) :: Tr b most (now + by_) R :: L) w' → K (.tuple #[sv, .int .i64 0]) w') :
    Cl pg 21 #[.pointer (some ⟨b, 0, none⟩), .int .i64 by_] K w := by
  refine V.jacinthref14_Timers_Advance_ok ?_
  unfold V.jacinthref14_Timers_Advance
  repeat (simp +decide only [SEM])
  refine ⟨fun h1 => ?_, fun h1 => k1 (.inl h1) _ d⟩
  obtain ⟨v, d⟩ := Tr.out d
  obtain ⟨q, c, rfl, -⟩ := Ro.shape d.swap
  repeat (first | (simp +decide only [SEM]) | (apply ldm d; (focus ((repeat (first | exact .h _ | refine .t _ _ ?_)); done)); (focus rfl)))
  rw [w64 (by omega) (by omega)]
  refine ⟨fun h2 => k1 (.inr h2) _ (Tr.mk d), fun h2 => ?_⟩
  repeat (first | (simp +decide only [SEM]) | (apply ldm d; (focus ((repeat (first | exact .h _ | refine .t _ _ ?_)); done)); (focus rfl)) | (apply stm d; (focus ((repeat (first | exact .h _ | apply Rp.t)); done)); (focus rfl); (focus simp); (focus exact ones rfl); intro w d; simp only [SPL] at d))
  rw [w64 (by omega) (by omega)] at d
  refine ⟨fun vs w' => ∃ (P R : List Te) (q : Option Addr) (c : Nat), vs = [.slice q P.length c] ∧ P ++ R = S ∧ (∀ x ∈ P, x.dl ≤ now + by_) ∧ D w0 (Rw 3 1 (.slice q P.length c) P.length (P.flatMap kyc) :: Tr b most (now + by_) R :: L) w', fun vs _ => match vs with | [.slice _ m _] => S.length - m | _ => 0, ⟨[], S, none, 0, rfl, rfl, by simp, ⟨Rw.nil _ _ (Tr.mk d).1, (Tr.mk d).2⟩⟩, ?_⟩
  clear d
  rintro _ w ⟨P, R, qp, cp, rfl, hPR, hP, d⟩ _
  simp only [UN]
  have hl : P.length + R.length = S.length := by rw [← hPR, List.length_append]
  obtain ⟨v, d⟩ := Tr.out d.swap
  have d := D.sel [2] d
  obtain ⟨q2, c2, rfl, -⟩ := Ro.shape (D.sel [2] d)
  repeat (first | refine drw d fun w d => ?_ | (simp +decide only [SEM]) | (apply ldm d; (focus ((repeat (first | exact .h _ | refine .t _ _ ?_)); done)); (focus rfl)) | refine qt d ?_)
  refine ⟨fun h3 => ?_, fun h3 => ?_⟩
  · obtain ⟨e, R', rfl⟩ : ∃ e R', R = e :: R' := by
      cases R with
      | nil => simp at h3
      | cons e R' => exact ⟨e, R', rfl⟩
    obtain ⟨b1, o1, cap1, cells1, e1, -, -⟩ := ro_at ec_len (D.sel [2] d) (i := 0) (by simp)
    cases e1
    repeat (first | refine qe_nil ?_ | (apply qlm; (focus ((repeat (first | exact .h _ | refine .t _ _ ?_)); done)); (focus rfl)))
    refine qe (.pointer (some ⟨b1, o1, none⟩)) (fun w d => ia_ok (by omega) (by simp) ⟨by simp, rfl⟩) ?_
    repeat (refine qe_nil ?_)
    refine qe (.int .i64 e.dl) (fun w d => by
      obtain ⟨b2, o2, cap2, cells2, e2, g2, hc2⟩ := ro_at ec_len (D.sel [2] d) (i := 0) (by simp)
      cases e2
      exact ld1 g2 (by simpa using hc2 0 _ rfl) ⟨rfl, rfl⟩) ?_
    repeat (first | (simp +decide only [SEM]) | refine qe_nil ?_ | (apply qlm; (focus ((repeat (first | exact .h _ | refine .t _ _ ?_)); done)); (focus rfl)))
    refine ⟨fun h4 => ?_, fun h4 => ?_⟩
    · repeat (apply ldm d; (focus ((repeat (first | exact .h _ | refine .t _ _ ?_)); done)); (focus rfl))
      refine ro_fld (i := 0) (j := 1) (v := .int .i64 e.key) ec_len (D.sel [2] d) (by simp) rfl ?_
      repeat (refine bsl1 (by first | rfl | (simp only [cells_agg, cells_int, cells_bool, cells_ptr, cells_sl, cells_map, cells_fn, List.drop_succ_cons, List.drop_zero, List.take_succ_cons, List.take_zero, Nat.zero_add, Nat.reduceAdd, Int.toNat_natCast, Int.toNat_zero]; rfl)) rfl d (by decide) (by decide) fun bn w d => ?_)
      have d : D w0 (Rw 3 1 (.slice qp P.length cp) P.length (P.flatMap kyc) :: cel bn 3 [.int .i64 e.key] :: cel b 43 [.slice (some ⟨b1, o1, none⟩) (e :: R').length c2, .int .i64 most, .int .i64 (now + by_)] :: Ro 53 2 (.slice (some ⟨b1, o1, none⟩) (e :: R').length c2) (e :: R').length ((e :: R').flatMap ec) :: L) w := D.sel [1, 0, 2, 3] d
      refine d_app (m := 1) d (src_of (gc1 d) rfl (ones rfl) 1) rfl (by omega) (by omega) (by omega) (ones rfl) fun sv' w d => ?_
      obtain ⟨q3, c3, rfl, -⟩ := Rw.shape d.1
      repeat (first | (simp +decide only [SEM]) | (apply ldm d; (focus ((repeat (first | exact .h _ | refine .t _ _ ?_)); done)); (focus rfl)))
      refine ro_tail ec_len (D.sel [3] d) fun sv2 d => ?_
      have d : D w0 (cel b 43 [.slice (some ⟨b1, o1, none⟩) (e :: R').length c2, .int .i64 most, .int .i64 (now + by_)] :: Ro 53 2 sv2 R'.length (R'.flatMap ec) :: Rw 3 1 (.slice q3 (P.length + 1) c3) (P.length + 1) (P.flatMap kyc ++ [.int .i64 e.key]) :: L) w := (D.sel [3, 0, 1, 2] d).under' fun h s => s.under fun h s => s.under fun h s => s.tail
      obtain ⟨q4, c4, rfl, -⟩ := Ro.shape d.swap
      repeat (first | (simp +decide only [SEM]) | (apply stm d; (focus ((repeat (first | exact .h _ | apply Rp.t)); done)); (focus rfl); (focus simp); (focus exact ones rfl); intro w d; simp only [SPL] at d))
      refine ⟨⟨P ++ [e], R', q3, c3, by simp, by rw [List.append_assoc]; exact hPR, fun x hx => ?_, ?_⟩, by show S.length - (P.length + 1) < S.length - P.length; simp at hl; omega⟩
      · rcases List.mem_append.1 hx with hx | hx
        · exact hP x hx
        · rw [List.mem_singleton.1 hx]; exact h4
      · have e1 : (P ++ [e]).length = P.length + 1 := by simp
        have e2 : (P ++ [e]).flatMap kyc = P.flatMap kyc ++ [.int .i64 e.key] := by rw [List.flatMap_append, List.flatMap_singleton]; rfl
        rw [e1, e2]
        exact D.swap (Tr.mk (D.sel [0, 1, 2] d))
    · have hR1 : ∀ x ∈ (e :: R').head?, now + by_ < x.dl := fun x hx => by
        rw [List.head?_cons, Option.mem_some_iff] at hx
        subst hx
        omega
      exact k2 (by omega) (by omega) P (e :: R') _ _ hPR hP hR1 (D.sel [0] (D.swap (Tr.mk (D.sel [1, 2, 0] d))))
  · have hR : R = [] := List.length_eq_zero_iff.1 (by omega)
    subst hR
    exact k2 (by omega) (by omega) P [] _ _ hPR hP (by simp) (D.sel [0] (D.swap (Tr.mk (D.sel [1, 2, 0] d))))
/-- Who is first. -/
theorem Next_ok (d : D w0 (T b most now M :: L) w) (k1 : M = [] → ∀ w', D w0 (T b most now M :: L) w' → K (.tuple #[.int .i64 0, .int .i64 0, .bool false]) w')
    (k2 : ∀ x ∈ M, (∀ y ∈ M, le x y) → ∀ w', D w0 (T b most now M :: L) w' → K (.tuple #[.int .i64 x.key, .int .i64 x.dl, .bool true]) w') : Cl pg 22 #[.pointer (some ⟨b, 0, none⟩)] K w := by
  refine V.timer_Timers_Next_ok ?_
  unfold V.timer_Timers_Next
  obtain ⟨H, g, ok, d⟩ := T.out d
  obtain ⟨sv, bm, d⟩ := Tx.out d
  obtain ⟨q, c, rfl, -⟩ := Rw.shape d.swap.1
  have hHM : H.Perm M := ok.2.2.1
  repeat (first | (simp +decide only [SEM]) | (apply ldm d; (focus ((repeat (first | exact .h _ | refine .t _ _ ?_)); done)); (focus rfl)))
  refine ⟨fun h0 => ?_, fun h0 => ?_⟩
  · have hH : H = [] := List.length_eq_zero_iff.1 (by omega)
    have hM : M = [] := by rw [hH] at hHM; exact hHM.symm.eq_nil
    exact k1 hM _ (T.mk ok (Tx.mk d))
  · have hpos : 0 < H.length := by omega
    obtain ⟨b1, c1, e⟩ := rw_ptr d (.t _ _ (.h _)) hpos
    cases e
    repeat (first | refine drw d fun w d => ?_ | (simp +decide only [SEM]) | refine qt d ?_ | refine qe_nil ?_ | (apply qlm; (focus ((repeat (first | exact .h _ | refine .t _ _ ?_)); done)); (focus rfl)) | refine qia (by first | omega | (simp; omega)) ?_ | (focus (apply ql1; (focus ((repeat (first | exact .h _ | refine .t _ _ ?_)); done)); (focus exact fun _ => rfl); (focus rfl); rotate_left; (focus (first | omega | (simp; done) | (simp; omega))))) | (focus (apply ql0; (focus ((repeat (first | exact .h _ | refine .t _ _ ?_)); done)); (focus exact fun _ => rfl); (focus rfl); rotate_left; (focus (first | omega | (simp; done) | (simp; omega))))))
    have e0 : at_ H 0 = H[0] := at_get hpos
    refine k2 H[0] (hHM.mem_iff.1 (List.getElem_mem _)) (fun y hy => ?_) _ (T.mk ok (Tx.mk d))
    obtain ⟨j, hj, rfl⟩ := List.getElem_of_mem (hHM.mem_iff.2 hy)
    rw [← e0, ← at_get hj]
    exact heap_min ok.2.1 j hj
end
end Go.Proofs.Ythpkkbmiockloaa
