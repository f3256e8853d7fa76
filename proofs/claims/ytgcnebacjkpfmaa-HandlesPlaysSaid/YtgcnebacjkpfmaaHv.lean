/- Handles: the reference's table: taking, closing many, all of them. -/
import Derived.Test.YtgcnebacjkpfmaaHu
set_option maxRecDepth 100000
set_option maxHeartbeats 4000000
namespace Go.Proofs.Ytgcnebacjkpfmaa
open Go Go.Jac
section
variable {w0 w : World} {L : List HP} {K : Value → WP} {b c : Nat} {cap : Int} {S : List Slot} {sv se : Value} {l : List Int}
theorem clo_le (S : List Slot) (l : List Int) : (cloN S l).length = S.length := by
  induction l generalizing S with
  | nil => rfl
  | cons v r ih => exact (ih (S := clo S v)).trans (clo_len S v)
theorem RTake_ok {q : Option Addr} {cq : Nat} (hg : GInv S) (hS : S.length ≤ 65536) (hl : l.length ≤ 65536) (d : D w0 (Rw 3 1 (.slice q l.length cq) l.length (l.flatMap nc) :: Rt c cap S :: L) w)
    (k1 : ¬ tak S l → ∀ w', D w0 (Rw 3 1 (.slice q l.length cq) l.length (l.flatMap nc) :: Rt c cap S :: L) w' → K (.tuple #[.slice none 0 0, .int .i64 (-11)]) w')
    (k2 : tak S l → ∀ sv' w', D w0 (Rw 89 3 sv' l.length ((clxN S l).flatMap ec) :: Rw 3 1 (.slice q l.length cq) l.length (l.flatMap nc) :: Rt c cap (cloN S l) :: L) w' → K (.tuple #[sv', .int .i64 0]) w') :
    Cl pg 43 #[.pointer (some ⟨c, 0, none⟩), .slice q l.length cq] K w := by
  refine V.jacinthref06_Table_Take_ok ?_
  unfold V.jacinthref06_Table_Take
  refine ⟨fun vs w' => ∃ (u v : Value) (i : Nat), vs = [u, v, .int .i64 i] ∧ i ≤ l.length ∧ (∀ (j : Nat) (h : j < l.length), j < i → look S l[j] ≠ none ∧ l[j] ∉ l.take j) ∧ D w0 (Rw 3 1 (.slice q l.length cq) l.length (l.flatMap nc) :: Rt c cap S :: L) w', fun vs _ => match vs with | [_, _, .int _ i] => l.length - i.toNat | _ => 0, ⟨_, _, 0, rfl, by omega, fun j _ h => by omega, d⟩, ?_⟩
  clear d
  rintro _ w ⟨u, v, i, rfl, hi, hgood, d⟩ _
  simp only [UN]
  repeat (simp +decide only [SEM])
  refine ⟨fun hlt => ?_, fun hge => ?_⟩
  · have hlt' : i < l.length := by omega
    have hw1 : IntKind.i64.wrap ((i : Int) + 1) = i + 1 := w64 (by omega) (by omega)
    have bad : ¬ (look S l[i] ≠ none ∧ l[i] ∉ l.take i) → ¬ tak S l := fun h h2 => h (h2 i hlt')
    repeat (focus (apply rw_el1 d; (focus ((repeat (first | exact .h _ | refine .t _ _ ?_)); done)); (focus exact fun _ => rfl); (focus rfl); rotate_left; (focus (first | omega | (simp; done) | (simp; omega)))))
    refine fn20 (fun _ _ => rfl) (RFind_rt hg hS (D.sel [1] d) fun w d => ?_)
    have d := D.swap d
    cases hlk : look S l[i] with
    | none =>
      have e : lk S l[i] = -1 := by unfold lk; rw [hlk]
      rw [e]
      repeat (simp +decide only [SEM])
      exact k1 (bad fun h => h.1 hlk) _ d
    | some p =>
      have e : lk S l[i] = p := by unfold lk; rw [hlk]
      rw [e]
      repeat (simp +decide only [SEM])
      refine ⟨fun h => by omega, fun _ => ?_⟩
      refine ⟨fun vs w' => ∃ (u v : Value) (m : Nat), vs = [u, v, .int .i64 m] ∧ m ≤ i ∧ l[i] ∉ l.take m ∧ D w0 (Rw 3 1 (.slice q l.length cq) l.length (l.flatMap nc) :: Rt c cap S :: L) w', fun vs _ => match vs with | [_, _, .int _ m] => i - m.toNat | _ => 0, ⟨_, _, 0, rfl, by omega, by simp, d⟩, ?_⟩
      clear d
      rintro _ w ⟨u, v, m, rfl, hm, hno, d⟩ _
      simp only [UN]
      repeat (simp +decide only [SEM])
      refine ⟨fun hlm => ?_, fun hgm => ?_⟩
      · have hml : m < l.length := by omega
        have hw2 : IntKind.i64.wrap ((m : Int) + 1) = m + 1 := w64 (by omega) (by omega)
        refine drw d fun w d => ?_
        obtain ⟨qb, qc, e⟩ := rw_ptr d (.h _) (by omega)
        cases e
        refine qt d ?_
        repeat (first | (simp +decide only [SEM]) | refine qia (by first | omega | (simp; omega)) ?_ | (focus (apply ql0; (focus ((repeat (first | exact .h _ | refine .t _ _ ?_)); done)); (focus exact fun _ => rfl); (focus rfl); rotate_left; (focus (first | omega | (simp; done) | (simp; omega))))))
        refine ⟨fun heq => k1 (bad fun h => h.2 ?_) _ d, fun hne => ?_⟩
        · rw [← heq]
          exact List.mem_take_iff_getElem.2 ⟨m, by omega, rfl⟩
        · rw [hw2]
          refine ⟨⟨u, v, m + 1, by simp, by omega, ?_, d⟩, by omega⟩
          rw [List.take_succ_eq_append_getElem hml]
          simp only [List.mem_append, List.mem_singleton, not_or]
          exact ⟨hno, fun h => hne h.symm⟩
      · have e : m = i := by omega
        subst e
        rw [hw1]
        refine ⟨⟨u, v, m + 1, by simp, by omega, fun j hj hji => ?_, d⟩, by omega⟩
        by_cases e : j = m
        · subst e; exact ⟨by rw [hlk]; simp, hno⟩
        · exact hgood j hj (by omega)
  · have hall : tak S l := fun j hj => hgood j hj (by omega)
    refine ⟨fun vs w' => ∃ (u : Value) (i : Nat), vs = [u, .int .i64 i] ∧ i ≤ l.length ∧ D w0 (Rw 89 3 u (l.take i).length ((clxN S (l.take i)).flatMap ec) :: Rw 3 1 (.slice q l.length cq) l.length (l.flatMap nc) :: Rt c cap (cloN S (l.take i)) :: L) w', fun vs _ => match vs with | [_, .int _ i] => l.length - i.toNat | _ => 0, ⟨_, 0, rfl, by omega, ⟨Rw.nil _ _ d.1, d.2⟩⟩, ?_⟩
    clear d
    rintro _ w ⟨u, i, rfl, hi, d⟩ _
    simp only [UN]
    repeat (simp +decide only [SEM])
    refine ⟨fun hlt => ?_, fun hge => ?_⟩
    · have hlt' : i < l.length := by omega
      have hw1 : IntKind.i64.wrap ((i : Int) + 1) = i + 1 := w64 (by omega) (by omega)
      have e1 : l.take (i + 1) = l.take i ++ [l[i]] := List.take_succ_eq_append_getElem hlt'
      have e2 : cloN S (l.take (i + 1)) = clo (cloN S (l.take i)) l[i] := by rw [e1, cloN_snoc]
      have e3 : (clxN S (l.take (i + 1))).flatMap ec = (clxN S (l.take i)).flatMap ec ++ ec (clx (cloN S (l.take i)) l[i]) := by rw [e1, clxN_snoc]; simp
      have e4 : (l.take (i + 1)).length = (l.take i).length + 1 := by rw [e1, List.length_append]; rfl
      have hlen : (l.take i).length ≤ 65536 := by rw [List.length_take]; omega
      repeat (focus (apply rw_el1 d; (focus ((repeat (first | exact .h _ | refine .t _ _ ?_)); done)); (focus exact fun _ => rfl); (focus rfl); rotate_left; (focus (first | omega | (simp; done) | (simp; omega)))))
      refine fn20 (fun _ _ => rfl) (RClose_any (hg.cloN _) (by rw [clo_le]; exact hS) (D.sel [2] d) fun w d => ?_)
      generalize clx (cloN S (l.take i)) l[i] = x at *
      obtain ⟨xv, xo, xk, xr⟩ := x
      simp only [Slot.ent, ent]
      repeat (first | (simp +decide only [SEM]) | (apply lam d; (focus ((repeat (first | exact .h _ | refine .t _ _ ?_)); done)); (focus rfl)) | (refine d_new _ d fun bn w d => ?_) | refine bsl1 (by first | rfl | (simp only [cells_agg, cells_int, cells_bool, cells_ptr, cells_sl, cells_map, cells_fn, List.drop_succ_cons, List.drop_zero, List.take_succ_cons, List.take_zero, Nat.zero_add, Nat.reduceAdd, Int.toNat_natCast, Int.toNat_zero]; rfl)) rfl d (by decide) (by decide) fun bn w d => ?_ | (apply swm d; (focus ((repeat (first | exact .h _ | apply Rp.t)); done)); (focus rfl); (focus rfl); (focus exact ones rfl); intro w d; simp only [SPL] at d))
      refine d_app (m := 1) (D.sel [3] d) (src_of (gc1 (D.sel [3] d)) rfl (ones rfl) 1) rfl (by omega) (by omega) (by omega) (ones rfl) fun v1 w d => ?_
      repeat (simp +decide only [SEM])
      rw [hw1]
      refine ⟨⟨v1, i + 1, by simp, by omega, ?_⟩, by omega⟩
      rw [e2, e3, e4]
      exact (D.sel [1, 2, 0, 4, 3] d).tail.tail
    · have e : l.take i = l := List.take_of_length_le (by omega)
      rw [e] at d
      exact k2 hall _ _ d
theorem RCloseMany_ok {q : Option Addr} {cq : Nat} (hg : GInv S) (hS : S.length ≤ 65536) (hl : l.length ≤ 65536) (d : D w0 (Rw 3 1 (.slice q l.length cq) l.length (l.flatMap nc) :: Rt c cap S :: L) w)
    (k : ∀ sv' w', D w0 (Rw 89 3 sv' (cmX S l).length ((cmX S l).flatMap ec) :: Rw 3 1 (.slice q l.length cq) l.length (l.flatMap nc) :: Rt c cap (cloN S l) :: L) w' → K (.tuple #[sv', .int .i64 (cond (cmB S l) (-11) 0)]) w') :
    Cl pg 42 #[.pointer (some ⟨c, 0, none⟩), .slice q l.length cq] K w := by
  refine V.jacinthref06_Table_CloseMany_ok ?_
  unfold V.jacinthref06_Table_CloseMany
  refine ⟨fun vs w' => ∃ (u : Value) (i : Nat), vs = [.int .i64 (cond (cmB S (l.take i)) (-11) 0), u, .int .i64 i] ∧ i ≤ l.length ∧ D w0 (Rw 89 3 u (cmX S (l.take i)).length ((cmX S (l.take i)).flatMap ec) :: Rw 3 1 (.slice q l.length cq) l.length (l.flatMap nc) :: Rt c cap (cloN S (l.take i)) :: L) w', fun vs _ => match vs with | [_, _, .int _ i] => l.length - i.toNat | _ => 0, ⟨_, 0, rfl, by omega, ⟨Rw.nil _ _ d.1, d.2⟩⟩, ?_⟩
  clear d
  rintro _ w ⟨u, i, rfl, hi, d⟩ _
  simp only [UN]
  repeat (simp +decide only [SEM])
  refine ⟨fun hlt => ?_, fun hge => ?_⟩
  · have hlt' : i < l.length := by omega
    have e1 : l.take (i + 1) = l.take i ++ [l[i]] := List.take_succ_eq_append_getElem hlt'
    have e2 : cloN S (l.take (i + 1)) = clo (cloN S (l.take i)) l[i] := by rw [e1, cloN_snoc]
    have e3 : cmX S (l.take (i + 1)) = cmX S (l.take i) ++ (if look (cloN S (l.take i)) l[i] = none then [] else [clx (cloN S (l.take i)) l[i]]) := by rw [e1, cmX_snoc]
    have e4 : cmB S (l.take (i + 1)) = (cmB S (l.take i) || (decide (l[i] ≠ 0) && (look (cloN S (l.take i)) l[i]).isNone)) := by rw [e1, cmB_snoc]
    have hw1 : IntKind.i64.wrap ((i : Int) + 1) = i + 1 := w64 (by omega) (by omega)
    have next : ∀ (u' st : Value) (w' : World), st = .int .i64 (cond (cmB S (l.take (i + 1))) (-11) 0) → D w0 (Rw 89 3 u' (cmX S (l.take (i + 1))).length ((cmX S (l.take (i + 1))).flatMap ec) :: Rw 3 1 (.slice q l.length cq) l.length (l.flatMap nc) :: Rt c cap (cloN S (l.take (i + 1))) :: L) w' →
        (∃ (u : Value) (i' : Nat), [st, u', Value.int .i64 ((i : Int) + 1)] = [.int .i64 (cond (cmB S (l.take i')) (-11) 0), u, .int .i64 i'] ∧ i' ≤ l.length ∧ D w0 (Rw 89 3 u (cmX S (l.take i')).length ((cmX S (l.take i')).flatMap ec) :: Rw 3 1 (.slice q l.length cq) l.length (l.flatMap nc) :: Rt c cap (cloN S (l.take i')) :: L) w') ∧ l.length - ((i : Int) + 1).toNat < l.length - (i : Int).toNat :=
      fun u' st w' hst d' => ⟨⟨u', i + 1, by rw [hst]; simp, by omega, d'⟩, by omega⟩
    repeat (first | (simp +decide only [SEM]) | (focus (apply rw_el1 d; (focus ((repeat (first | exact .h _ | refine .t _ _ ?_)); done)); (focus exact fun _ => rfl); (focus rfl); rotate_left; (focus (first | omega | (simp; done) | (simp; omega))))))
    generalize hz : l[i] = z at *
    refine ⟨fun h0 => ?_, fun h0 => ?_⟩
    · subst h0
      have hn := look_0 (cloN S (l.take i))
      rw [hn, if_pos rfl, List.append_nil] at e3
      rw [clo_none hn] at e2
      rw [hw1]
      refine next u _ _ ?_ (by rw [e2, e3]; exact d)
      rw [e4]; simp
    · repeat (focus (apply rw_el1 d; (focus ((repeat (first | exact .h _ | refine .t _ _ ?_)); done)); (focus exact fun _ => rfl); (focus rfl); rotate_left; (focus (first | omega | (simp; done) | (simp; omega)))))
      rw [hz]
      refine fn20 (fun _ _ => rfl) (RClose_any (hg.cloN _) (by rw [clo_le]; exact hS) (D.sel [2] d) fun w d => ?_)
      generalize hx : clx (cloN S (l.take i)) z = x at *
      obtain ⟨xv, xo, xk, xr⟩ := x
      simp only [Slot.ent, ent]
      by_cases hn : look (cloN S (l.take i)) z = none
      · rw [if_pos hn]
        repeat (first | (simp +decide only [SEM]) | (refine d_new _ d fun bn w d => ?_) | (apply swm d; (focus ((repeat (first | exact .h _ | apply Rp.t)); done)); (focus rfl); (focus rfl); (focus exact ones rfl); intro w d; simp only [SPL] at d))
        rw [hw1]
        rw [if_pos hn, List.append_nil] at e3
        refine next u _ _ ?_ (by rw [e2, e3]; exact (D.sel [0, 2, 3, 1] d).tail)
        rw [e4, hn]; simp [h0]
      · rw [if_neg hn]
        repeat (first | (simp +decide only [SEM]) | (apply lam d; (focus ((repeat (first | exact .h _ | refine .t _ _ ?_)); done)); (focus rfl)) | (refine d_new _ d fun bn w d => ?_) | refine bsl1 (by first | rfl | (simp only [cells_agg, cells_int, cells_bool, cells_ptr, cells_sl, cells_map, cells_fn, List.drop_succ_cons, List.drop_zero, List.take_succ_cons, List.take_zero, Nat.zero_add, Nat.reduceAdd, Int.toNat_natCast, Int.toNat_zero]; rfl)) rfl d (by decide) (by decide) fun bn w d => ?_ | (apply swm d; (focus ((repeat (first | exact .h _ | apply Rp.t)); done)); (focus rfl); (focus rfl); (focus exact ones rfl); intro w d; simp only [SPL] at d))
        rw [if_neg hn] at e3
        have hlen : (cmX S (l.take i)).length ≤ 65536 := by
          have := cmX_len S (l.take i)
          rw [List.length_take] at this; omega
        refine d_app (m := 1) (D.sel [3] d) (src_of (gc1 (D.sel [3] d)) rfl (ones rfl) 1) rfl (by omega) (by omega) (by omega) (ones rfl) fun v1 w d => ?_
        repeat (simp +decide only [SEM])
        rw [hw1]
        refine next v1 _ _ ?_ ?_
        · rw [e4]
          have : (look (cloN S (l.take i)) z).isNone = false := by
            cases hh : look (cloN S (l.take i)) z with
            | none => exact absurd hh hn
            | some p => rfl
          rw [this]; simp
        · have e5 : (cmX S (l.take (i + 1))).length = (cmX S (l.take i)).length + 1 := by rw [e3]; simp
          have e6 : (cmX S (l.take (i + 1))).flatMap ec = (cmX S (l.take i)).flatMap ec ++ ec ⟨xv, xo, xk, xr⟩ := by rw [e3]; simp
          rw [e2, e5, e6]
          exact (D.sel [1, 2, 0, 4, 3] d).tail.tail
  · have e : l.take i = l := List.take_of_length_le (by omega)
    rw [e] at d
    rw [e]
    exact k _ _ d
theorem RAll_ok (hS : S.length ≤ 65536) (d : D w0 (Rt c cap S :: L) w) (k : ∀ sv se w', D w0 (Rw 3 1 sv (tkn S).length ((tkn S).flatMap vc) :: Rw 89 3 se (tkn S).length ((tkn S).flatMap ec) :: Rt c cap S :: L) w' → K (.tuple #[sv, se]) w') : Cl pg 26 #[.pointer (some ⟨c, 0, none⟩)] K w := by
  refine V.jacinthref06_Table_All_ok ?_
  unfold V.jacinthref06_Table_All
  obtain ⟨sv, se, d⟩ := Rt.out d
  obtain ⟨q, cq, rfl, -⟩ := Rw.shape d.swap.1
  obtain ⟨q2, cq2, rfl, -⟩ := Rw.shape (d.pick 2).1
  have dI : D w0 (Rw 3 1 (.slice none 0 0) 0 [] :: Rw 89 3 (.slice none 0 0) 0 [] :: cel c 61 [.slice q S.length cq, .slice q2 S.length cq2, .int .i64 cap] :: Rw 3 1 (.slice q S.length cq) S.length (S.flatMap vc) :: Rw 89 3 (.slice q2 S.length cq2) S.length (S.flatMap ec) :: L) w := ⟨Rw.nil _ _ (Rw.nil _ _ d.1), d.2⟩
  refine ⟨fun vs w' => ∃ (u1 u2 : Value) (i : Nat), vs = [u1, u2, .int .i64 i] ∧ i ≤ S.length ∧ D w0 (Rw 3 1 u1 (tkn (S.take i)).length ((tkn (S.take i)).flatMap vc) :: Rw 89 3 u2 (tkn (S.take i)).length ((tkn (S.take i)).flatMap ec) :: cel c 61 [.slice q S.length cq, .slice q2 S.length cq2, .int .i64 cap] :: Rw 3 1 (.slice q S.length cq) S.length (S.flatMap vc) :: Rw 89 3 (.slice q2 S.length cq2) S.length (S.flatMap ec) :: L) w', fun vs _ => match vs with | [_, _, .int _ i] => S.length - i.toNat | _ => 0, ⟨_, _, 0, rfl, by omega, dI⟩, ?_⟩
  clear d dI
  rintro _ w ⟨u1, u2, i, rfl, hi, d⟩ _
  simp only [UN]
  repeat (first | (simp +decide only [SEM]) | (apply ldm d; (focus ((repeat (first | exact .h _ | refine .t _ _ ?_)); done)); (focus rfl)))
  refine ⟨fun hlt => ?_, fun hge => ?_⟩
  · have hlt' : i < S.length := by omega
    have hw1 : IntKind.i64.wrap ((i : Int) + 1) = i + 1 := w64 (by omega) (by omega)
    have ht := tkn_take hlt'
    have hlen : (tkn (S.take i)).length ≤ 65536 := by
      have : (tkn (S.take i)).length ≤ (S.take i).length := List.length_filter_le _ _
      rw [List.length_take] at this; omega
    repeat (first | (simp +decide only [SEM]) | (apply ldm d; (focus ((repeat (first | exact .h _ | refine .t _ _ ?_)); done)); (focus rfl)) | (focus (apply rw_el1 d; (focus ((repeat (first | exact .h _ | refine .t _ _ ?_)); done)); (focus exact fun _ => rfl); (focus rfl); rotate_left; (focus (first | omega | (simp; done) | (simp; omega))))))
    refine ⟨fun hz => ?_, fun hz => ?_⟩
    · rw [if_pos hz] at ht
      repeat (first | (apply ldm d; (focus ((repeat (first | exact .h _ | refine .t _ _ ?_)); done)); (focus rfl)) | refine bsl1 (by first | rfl | (simp only [cells_agg, cells_int, cells_bool, cells_ptr, cells_sl, cells_map, cells_fn, List.drop_succ_cons, List.drop_zero, List.take_succ_cons, List.take_zero, Nat.zero_add, Nat.reduceAdd, Int.toNat_natCast, Int.toNat_zero]; rfl)) rfl d (by decide) (by decide) fun bn w d => ?_ | (focus (apply rw_el1 d; (focus ((repeat (first | exact .h _ | refine .t _ _ ?_)); done)); (focus exact fun _ => rfl); (focus rfl); rotate_left; (focus (first | omega | (simp; done) | (simp; omega))))))
      refine d_app (m := 1) (D.sel [1] d) (src_of (gc1 (D.sel [1] d)) rfl (ones rfl) 1) rfl (by omega) (by omega) (by omega) (ones rfl) fun v1 w d => ?_
      repeat (first | (simp +decide only [SEM]) | (apply ldm d; (focus ((repeat (first | exact .h _ | refine .t _ _ ?_)); done)); (focus rfl)) | refine bsl1 (by first | rfl | (simp only [cells_agg, cells_int, cells_bool, cells_ptr, cells_sl, cells_map, cells_fn, List.drop_succ_cons, List.drop_zero, List.take_succ_cons, List.take_zero, Nat.zero_add, Nat.reduceAdd, Int.toNat_natCast, Int.toNat_zero]; rfl)) rfl d (by decide) (by decide) fun bn w d => ?_ | (focus (apply rw_elN d; (focus ((repeat (first | exact .h _ | refine .t _ _ ?_)); done)); (focus exact fun _ => rfl); rotate_left; (focus (first | omega | (simp; done) | (simp; omega))))))
      refine d_app (m := 1) (D.sel [3] d) (src_of (gc1 (D.sel [3] d)) rfl (ones rfl) 1) rfl (by omega) (by omega) (by omega) (ones rfl) fun v2 w d => ?_
      repeat (simp +decide only [SEM])
      rw [hw1]
      refine ⟨⟨v1, v2, i + 1, by simp, by omega, ?_⟩, by omega⟩
      rw [ht, List.length_append, List.flatMap_append, List.flatMap_append, List.flatMap_singleton, List.flatMap_singleton]
      exact (D.sel [1, 3, 2, 0] d).tail.tail
    · rw [if_neg (by simpa using hz)] at ht
      rw [hw1]
      refine ⟨⟨u1, u2, i + 1, by simp, by omega, ?_⟩, by omega⟩
      rw [ht]
      exact d
  · have e : S.take i = S := List.take_of_length_le (by omega)
    rw [e] at d
    exact k _ _ _ (D.sel [1, 2] (Rt.mk (D.sel [2, 3, 4] d)))
end
end Go.Proofs.Ytgcnebacjkpfmaa
