/- Regions: Cut; Place; List. -/
import Derived.Test.YtplllehpaimpiaaGd
set_option maxRecDepth 100000
set_option maxHeartbeats 8000000
namespace Go.Proofs.Ytplllehpaimpiaa
open Go Go.Jac
theorem outP_len (at_ m : Int) (x : Pc) : (outP at_ m x).length ≤ 2 := by
  unfold outP
  split
  · split <;> split <;> simp
  · simp
theorem inP_len (at_ m : Int) (x : Pc) : (inP at_ m x).length ≤ 1 := by
  unfold inP
  split <;> simp
theorem outs_len (at_ m : Int) : ∀ S : List Pc, (S.flatMap (outP at_ m)).length ≤ 2 * S.length
  | [] => by simp
  | x :: r => by
    have := outs_len at_ m r
    have := outP_len at_ m x
    rw [List.flatMap_cons, List.length_append, List.length_cons]; omega
theorem ins_len (at_ m : Int) : ∀ S : List Pc, (S.flatMap (inP at_ m)).length ≤ S.length
  | [] => by simp
  | x :: r => by
    have := ins_len at_ m r
    have := inP_len at_ m x
    rw [List.flatMap_cons, List.length_append, List.length_cons]; omega
section
variable {w0 w : World} {L : List HP} {K : Value → WP} {b n : Nat} {size most : Int} {sv lv v : Value} {x : Pc} {S : List Pc}
theorem split_ok {at_ m : Int} (h0 : 0 ≤ at_ ∧ 0 < m ∧ at_ + m ≤ size) (d : D w0 (Rg b size most S :: L) w)
    (k : ∀ ov iv w', D w0 (Rw 27 5 ov (S.flatMap (outP at_ m)).length ((S.flatMap (outP at_ m)).flatMap pc) :: Rw 27 5 iv (S.flatMap (inP at_ m)).length ((S.flatMap (inP at_ m)).flatMap pc) :: Rg b size most S :: L) w' → K (.tuple #[ov, iv]) w') :
    Cl pg 24 #[.pointer (some ⟨b, 0, none⟩), .int .i64 at_, .int .i64 m] K w := by
  refine V.region_Region_split_ok ?_
  unfold V.region_Region_split
  obtain ⟨ok, v, d⟩ := Rg.out d
  obtain ⟨q, c, rfl, -⟩ := Rw.shape d.swap.1
  have hl := ok.len
  have hmo := ok.mo
  have hsz := ok.sz
  repeat (first | (simp +decide only [SEM]) | (apply ldm d; (focus ((repeat (first | exact .h _ | refine .t _ _ ?_)); done)); (focus rfl)))
  refine ⟨fun vs w' => ∃ (i : Nat) (iv ov : Value), vs = [iv, ov, .int .i64 i] ∧ i ≤ S.length ∧ D w0 (Rw 27 5 ov ((S.take i).flatMap (outP at_ m)).length (((S.take i).flatMap (outP at_ m)).flatMap pc) :: Rw 27 5 iv ((S.take i).flatMap (inP at_ m)).length (((S.take i).flatMap (inP at_ m)).flatMap pc) :: cel b 49 [.int .i64 size, .int .i64 most, .slice q S.length c] :: Rw 27 5 (.slice q S.length c) S.length (S.flatMap pc) :: L) w', fun vs _ => match vs with | [_, _, .int _ i] => S.length - i.toNat | _ => 0, ⟨0, _, _, rfl, by omega, ?_⟩, ?_⟩
  · have d1 : D w0 (Rw 27 5 (.slice none 0 0) 0 [] :: _) w := ⟨Rw.nil _ _ d.1, d.2⟩
    exact ⟨Rw.nil _ _ d1.1, d1.2⟩
  clear d
  rintro _ w ⟨i, iv, ov, rfl, hi, d⟩ _
  simp only [UN]
  repeat (simp +decide only [SEM])
  refine ⟨fun hlt => ?_, fun hge => ?_⟩
  · have hlt' : i < S.length := by omega
    have hp := ok.all _ (List.getElem_mem hlt')
    have g1 := hp.n0
    have g2 := hp.en
    have g3 := hp.a0
    have g4 := hp.f0
    have g5 := hp.fa
    have hol := outs_len at_ m (S.take i)
    have hil := ins_len at_ m (S.take i)
    rw [List.length_take] at hol hil
    have hts := List.take_succ_eq_append_getElem hlt'
    refine rw_elN d (.t _ _ (.t _ _ (.t _ _ (.h _)))) pc_len hlt' ?_
    have hfo : (S.take (i + 1)).flatMap (outP at_ m) = (S.take i).flatMap (outP at_ m) ++ outP at_ m S[i] := by rw [hts, List.flatMap_append, List.flatMap_singleton]
    have hfi : (S.take (i + 1)).flatMap (inP at_ m) = (S.take i).flatMap (inP at_ m) ++ inP at_ m S[i] := by rw [hts, List.flatMap_append, List.flatMap_singleton]
    generalize (S.take i).flatMap (outP at_ m) = O at *
    generalize (S.take i).flatMap (inP at_ m) = I at *
    have nxt : ∀ (O' I' : List Pc) (ov' iv' : Value) (A : HP) (w : World), O ++ outP at_ m S[i] = O' → I ++ inP at_ m S[i] = I' → D w0 (Rw 27 5 ov' O'.length (O'.flatMap pc) :: Rw 27 5 iv' I'.length (I'.flatMap pc) :: A :: cel b 49 [.int .i64 size, .int .i64 most, .slice q S.length c] :: Rw 27 5 (.slice q S.length c) S.length (S.flatMap pc) :: L) w →
        (∃ (i' : Nat) (iv ov : Value), [iv', ov', .int .i64 (IntKind.i64.wrap ((i : Int) + 1))] = [iv, ov, Value.int .i64 i'] ∧ i' ≤ S.length ∧ D w0 (Rw 27 5 ov ((S.take i').flatMap (outP at_ m)).length (((S.take i').flatMap (outP at_ m)).flatMap pc) :: Rw 27 5 iv ((S.take i').flatMap (inP at_ m)).length (((S.take i').flatMap (inP at_ m)).flatMap pc) :: cel b 49 [.int .i64 size, .int .i64 most, .slice q S.length c] :: Rw 27 5 (.slice q S.length c) S.length (S.flatMap pc) :: L) w) ∧ S.length - (IntKind.i64.wrap ((i : Int) + 1)).toNat < S.length - i := by
      intro O' I' ov' iv' A w e1 e2 d
      rw [w64 (by omega) (by omega)]
      refine ⟨⟨i + 1, iv', ov', by simp, by omega, ?_⟩, by omega⟩
      rw [hfo, hfi, e1, e2]
      exact (D.sel [2, 0, 1] d).tail
    generalize S[i] = x at *
    have app : ∀ {O : List Pc} {y : Pc} {v : Value} {M : List HP} {w : World} {K : Value → WP} {bx : Nat} {c1 : Nat}, O.length ≤ 262144 → D w0 (Rw 27 5 v O.length (O.flatMap pc) :: cel bx 27 (pc y) :: M) w → (∀ v' w', D w0 (Rw 27 5 v' (O ++ [y]).length ((O ++ [y]).flatMap pc) :: M) w' → K v' w') → AppC 27 5 40 #[.int .i64 0, .int .i64 0, .int .i64 0, .int .i64 0, .int .i64 0] v (.slice (some ⟨bx, 0, none⟩) 1 c1) K w := by
      intro O y v M w K bx c1 hO d k
      refine d_app (m := 1) d (src_of (gc1 d) rfl (ones rfl) c1) rfl (by omega) (by omega) (by omega) (ones rfl) fun v' w d => k v' w ?_
      rw [List.length_append, List.flatMap_append, List.flatMap_singleton]
      exact d.tail2
    have hpx : pc x = [.int .i64 x.a, .int .i64 x.n, .int .i64 x.v, .int .i64 x.f, .int .i64 x.p] := rfl
    rw [hpx]
    refine d_new _ d fun bn w d => ?_
    generalize bn = bx at d ⊢
    repeat (first | (simp +decide only [SEM]) | (apply ldm d; (focus ((repeat (first | exact .h _ | refine .t _ _ ?_)); done)); (focus rfl)) | (apply swm d; (focus ((repeat (first | exact .h _ | apply Rp.t)); done)); (focus rfl); (focus rfl); (focus exact ones rfl); intro w d; simp only [SPL] at d))
    refine fn40 (fun _ _ => rfl) (Overlap_ok ⟨by omega, by omega⟩ ⟨by omega, by omega⟩ ⟨by omega, by omega⟩ ⟨by omega, by omega⟩ (by omega) (by omega) ?_)
    repeat (simp +decide only [SEM])
    cases hov : ovB x.a x.n at_ m with
    | false =>
      have eo : outP at_ m x = [x] := by unfold outP; rw [hov]; rfl
      have ei : inP at_ m x = [] := by unfold inP; rw [hov]; rfl
      repeat (first | (simp +decide only [SEM]) | (apply lam d; (focus ((repeat (first | exact .h _ | refine .t _ _ ?_)); done)); (focus rfl)) | refine bsl1 (by first | rfl | (simp only [cells_agg, cells_int, cells_bool, cells_ptr, cells_sl, cells_map, cells_fn, List.drop_succ_cons, List.drop_zero, List.take_succ_cons, List.take_zero, Nat.zero_add, Nat.reduceAdd, Int.toNat_natCast, Int.toNat_zero]; rfl)) rfl d (by decide) (by decide) fun bn w d => ?_)
      refine app (y := x) (by omega) (D.sel [2, 0] d) fun v' w d => ?_
      repeat (simp +decide only [SEM])
      exact nxt _ _ _ _ _ _ (by rw [eo]) (by rw [ei, List.append_nil]) (D.sel [0, 2, 1] d)
    | true =>
      have hob : x.a < at_ + m ∧ at_ < x.a + x.n := by
        unfold ovB at hov
        have := of_decide_eq_true hov
        omega
      repeat (simp +decide only [SEM])
      intro vK hvK
      have ei : inP at_ m x = [part x at_ (at_ + m)] := by unfold inP; rw [hov]; rfl
      have eo : outP at_ m x = (if x.a < at_ then [part x x.a at_] else []) ++ (if at_ + m < x.a + x.n then [part x (at_ + m) (x.a + x.n)] else []) := by unfold outP; rw [hov]; rfl
      have hb5 : 0 ≤ x.a ∧ x.a ≤ 8589934592 ∧ 0 ≤ x.n ∧ x.n ≤ 8589934592 ∧ 0 ≤ x.f ∧ x.f ≤ 34359738368 := by omega
      have fin : ∀ (O1 : List Pc) (ov1 : Value) (w : World), O1.length ≤ 262143 → O ++ (if x.a < at_ then [part x x.a at_] else []) = O1 → D w0 (Rw 27 5 ov1 O1.length (O1.flatMap pc) :: Rw 27 5 iv I.length (I.flatMap pc) :: cel bx 27 [.int .i64 x.a, .int .i64 x.n, .int .i64 x.v, .int .i64 x.f, .int .i64 x.p] :: cel b 49 [.int .i64 size, .int .i64 most, .slice q S.length c] :: Rw 27 5 (.slice q S.length c) S.length (S.flatMap pc) :: L) w → vK [ov1] w := by
        intro O1 ov1 w hO1 e1 d
        refine hvK _ _ ?_
        intro _
        simp only [UN]
        repeat (first | (simp +decide only [SEM]) | (apply lam d; (focus ((repeat (first | exact .h _ | refine .t _ _ ?_)); done)); (focus rfl)))
        have e2 : IntKind.i64.wrap (at_ + m) = at_ + m := w64 (by omega) (by omega)
        rw [e2]
        refine fn30 (fun _ _ => rfl) (part_ok (x := x) hb5 (by omega) (by omega) d fun w d => ?_)
        repeat (refine bsl1 (by first | rfl | (simp only [cells_agg, cells_int, cells_bool, cells_ptr, cells_sl, cells_map, cells_fn, List.drop_succ_cons, List.drop_zero, List.take_succ_cons, List.take_zero, Nat.zero_add, Nat.reduceAdd, Int.toNat_natCast, Int.toNat_zero]; rfl)) rfl d (by decide) (by decide) fun bn w d => ?_)
        refine app (y := part x at_ (at_ + m)) (by omega) (D.sel [2, 0] d) fun v' w d => ?_
        repeat (apply lam d; (focus ((repeat (first | exact .h _ | refine .t _ _ ?_)); done)); (focus rfl))
        refine fn10 (fun _ _ => rfl) (end_ok (x := x) ⟨by omega, by omega, by omega, by omega⟩ d fun w d => ?_)
        repeat (simp +decide only [SEM])
        rw [e2]
        refine ⟨fun h1 => ?_, fun h1 => ?_⟩
        · have d := D.sel [1, 0, 2, 3, 4] d
          repeat (first | refine drw d fun w d => ?_ | refine qt d ?_ | (apply qam; (focus ((repeat (first | exact .h _ | refine .t _ _ ?_)); done)); (focus rfl)) | refine qe_op (fun _ _ => BinI_add) ?_)
          rw [e2]
          refine fn10 (fun _ _ => rfl) (end_ok (x := x) ⟨by omega, by omega, by omega, by omega⟩ d fun w d => ?_)
          repeat (refine ch d ?_)
          refine fn30 (fun _ _ => rfl) (part_ok (x := x) hb5 (by omega) (by omega) d fun w d => ?_)
          repeat (refine bsl1 (by first | rfl | (simp only [cells_agg, cells_int, cells_bool, cells_ptr, cells_sl, cells_map, cells_fn, List.drop_succ_cons, List.drop_zero, List.take_succ_cons, List.take_zero, Nat.zero_add, Nat.reduceAdd, Int.toNat_natCast, Int.toNat_zero]; rfl)) rfl d (by decide) (by decide) fun bn w d => ?_)
          refine app (y := part x (at_ + m) (x.a + x.n)) (by omega) (D.sel [1, 0] d) fun v2 w d => ?_
          repeat (simp +decide only [SEM])
          refine nxt _ _ _ _ _ _ ?_ (by rw [ei]) d
          rw [eo, if_pos h1, ← e1, List.append_assoc]
        · refine nxt O1 _ _ _ _ _ ?_ (by rw [ei]) (D.sel [1, 0] d)
          rw [eo, if_neg h1, List.append_nil, e1]
      repeat (first | (simp +decide only [SEM]) | (apply ldm d; (focus ((repeat (first | exact .h _ | refine .t _ _ ?_)); done)); (focus rfl)))
      refine ⟨fun h1 => ?_, fun h1 => ?_⟩
      · repeat (first | (simp +decide only [SEM]) | (apply ldm d; (focus ((repeat (first | exact .h _ | refine .t _ _ ?_)); done)); (focus rfl)) | (apply lam d; (focus ((repeat (first | exact .h _ | refine .t _ _ ?_)); done)); (focus rfl)))
        refine fn30 (fun _ _ => rfl) (part_ok (x := x) hb5 (by omega) (by omega) d fun w d => ?_)
        repeat (refine bsl1 (by first | rfl | (simp only [cells_agg, cells_int, cells_bool, cells_ptr, cells_sl, cells_map, cells_fn, List.drop_succ_cons, List.drop_zero, List.take_succ_cons, List.take_zero, Nat.zero_add, Nat.reduceAdd, Int.toNat_natCast, Int.toNat_zero]; rfl)) rfl d (by decide) (by decide) fun bn w d => ?_)
        refine app (y := part x x.a at_) (by omega) (D.sel [2, 0] d) fun v' w d => ?_
        exact fin _ _ _ (by rw [List.length_append, List.length_singleton]; omega) (by rw [if_pos h1]) (D.sel [0, 2, 1] d)
      · exact fin O _ _ (by omega) (by rw [if_neg h1, List.append_nil]) (D.sel [1, 2, 0] d)
  · have hi' : i = S.length := by omega
    subst hi'
    rw [List.take_length] at d
    exact k _ _ _ (D.sel [1, 2, 0] (Rg.mk ok (D.sel [2, 3, 0, 1] d)))
end
end Go.Proofs.Ytplllehpaimpiaa
