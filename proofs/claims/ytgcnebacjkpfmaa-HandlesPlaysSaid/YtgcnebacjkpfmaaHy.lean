/- Handles: one step of a script. -/
import Derived.Test.YtgcnebacjkpfmaaHx
set_option maxRecDepth 100000
set_option maxHeartbeats 8000000
namespace Go.Proofs.Ytgcnebacjkpfmaa
open Go Go.Jac
section
variable {w0 w : World} {L : List HP} {K : Value → WP} {b c : Nat} {cap : Int} {S : List Slot} {sv se lv : Value} {l : List Int}
theorem step_ok {kd v nth n want dr o kk r : Int} (hv : I64 v) (hwt : I64 want) (hdr : I64 dr) (hl : l.length ≤ 60) (hlI : ∀ y ∈ l, I64 y) (ho : OldL w0 1 nc lv l) (hS : TOk cap S) (hg : GInv S) (hm : Old w0 ∈ L) (d : D w0 (Tb b cap S :: Rt c cap S :: L) w)
    (k : ∀ S' w', TOk cap S' → GInv S' → D w0 (Tb b cap S' :: Rt c cap S' :: L) w' → K (.bool true) w') :
    Cl pg 25 #[.pointer (some ⟨b, 0, none⟩), .pointer (some ⟨c, 0, none⟩), .agg #[.int .i64 kd, .int .i64 v, .int .i64 nth, .int .i64 n, .int .i64 want, .int .i64 dr, .int .i64 o, .int .i64 kk, .int .i64 r, lv]] K w := by
  refine V.jacinthlaw06_step_ok ?_
  unfold V.jacinthlaw06_step
  have hS1 := hS.1; have hS2 := hS.2
  have hT6 : (tkn S).length ≤ 65536 := Nat.le_trans (List.length_filter_le _ _) (by omega)
  obtain ⟨ql, cl, rfl⟩ := ho.shape
  refine d_new' [.int .i64 kd, .int .i64 v, .int .i64 nth, .int .i64 n, .int .i64 want, .int .i64 dr, .int .i64 o, .int .i64 kk, .int .i64 r, .slice ql l.length cl] rfl d fun bo w d => ?_
  refine fn10 (fun _ _ => rfl) (RAll_ok (by omega) (D.sel [2] d) fun sv se w d => ?_)
  obtain ⟨p1, c1, rfl, -⟩ := Rw.shape d.1
  obtain ⟨p2, c2, rfl, -⟩ := Rw.shape d.tail.1
  have d : D w0 (cel bo 51 [.int .i64 kd, .int .i64 v, .int .i64 nth, .int .i64 n, .int .i64 want, .int .i64 dr, .int .i64 o, .int .i64 kk, .int .i64 r, .slice ql l.length cl] :: Rw 3 1 (.slice p1 (tkn S).length c1) (tkn S).length ((tkn S).flatMap vc) :: Rw 89 3 (.slice p2 (tkn S).length c2) (tkn S).length ((tkn S).flatMap ec) :: Tb b cap S :: Rt c cap S :: L) w := D.sel [3, 0, 1, 4, 2] d
  repeat (first | (simp +decide only [SEM]) | (apply ldm d; (focus ((repeat (first | exact .h _ | refine .t _ _ ?_)); done)); (focus rfl)))
  intro K' hK
  have fin : ∀ (z : Int) (w : World), I64 z → D w0 (cel bo 51 [.int .i64 kd, .int .i64 v, .int .i64 nth, .int .i64 n, .int .i64 want, .int .i64 dr, .int .i64 o, .int .i64 kk, .int .i64 r, .slice ql l.length cl] :: Rw 3 1 (.slice p1 (tkn S).length c1) (tkn S).length ((tkn S).flatMap vc) :: Rw 89 3 (.slice p2 (tkn S).length c2) (tkn S).length ((tkn S).flatMap ec) :: Tb b cap S :: Rt c cap S :: L) w → K' [.int .i64 z] w := by
    intro z w hz d
    refine hK _ _ ?_
    intro _
    simp only [UN]
    clear hK
    repeat (first | (simp +decide only [SEM]) | (apply ldm d; (focus ((repeat (first | exact .h _ | refine .t _ _ ?_)); done)); (focus rfl)))
    refine ⟨fun vs w' => ∃ (u : Value) (i : Nat) (M : List Int), vs = [u, .int .i64 i] ∧ i ≤ l.length ∧ M.length = i ∧ (∀ y ∈ M, I64 y) ∧ D w0 (Rw 3 1 u M.length (M.flatMap nc) :: cel bo 51 [.int .i64 kd, .int .i64 v, .int .i64 nth, .int .i64 n, .int .i64 want, .int .i64 dr, .int .i64 o, .int .i64 kk, .int .i64 r, .slice ql l.length cl] :: Rw 3 1 (.slice p1 (tkn S).length c1) (tkn S).length ((tkn S).flatMap vc) :: Rw 89 3 (.slice p2 (tkn S).length c2) (tkn S).length ((tkn S).flatMap ec) :: Tb b cap S :: Rt c cap S :: L) w', fun vs _ => match vs with | [_, .int _ i] => l.length - i.toNat | _ => 0, ⟨_, 0, [], rfl, by omega, rfl, by simp, ⟨Rw.nil _ _ d.1, d.2⟩⟩, ?_⟩
    clear d
    rintro _ w ⟨u, i, M, rfl, hi, hM, hMI, d⟩ _
    obtain ⟨pm, cm, rfl, -⟩ := Rw.shape d.1
    simp only [UN]
    repeat (simp +decide only [SEM])
    refine ⟨fun hlt => ?_, fun hge => ?_⟩
    · have hlt' : i < l.length := by omega
      have hw1 : IntKind.i64.wrap ((i : Int) + 1) = i + 1 := w64 (by omega) (by omega)
      refine ho.ia (by omega) hlt fun a ha => ?_
      simp only [Int.toNat_natCast] at ha
      refine old_ld1 d (by simp [hm]) (by have := ha 0 _ rfl; rwa [Addr.add_zero] at this) ?_
      have hyI := hlI _ (List.getElem_mem hlt')
      generalize l[i] = y at hyI ⊢
      repeat (simp +decide only [SEM])
      refine ⟨fun h0 => ⟨fun h1 => ⟨fun h2 => ?_, fun h2 => ?_⟩, fun h1 => ?_⟩, fun h0 => ?_⟩
      · obtain ⟨m, rfl⟩ := Int.eq_ofNat_of_zero_le h0
        have hm2 : m < (tkn S).length := by omega
        have hyI := hg.i64 (List.getElem?_eq_getElem hm2)
        repeat (first | refine bsl1 (by first | rfl | (simp only [cells_agg, cells_int, cells_bool, cells_ptr, cells_sl, cells_map, cells_fn, List.drop_succ_cons, List.drop_zero, List.take_succ_cons, List.take_zero, Nat.zero_add, Nat.reduceAdd, Int.toNat_natCast, Int.toNat_zero]; rfl)) rfl d (by decide) (by decide) fun bn w d => ?_ | (focus (apply rw_el1 d; (focus ((repeat (first | exact .h _ | refine .t _ _ ?_)); done)); (focus exact fun _ => rfl); (focus rfl); rotate_left; (focus (first | omega | (simp; done) | (simp; omega))))))
        generalize ((tkn S)[m]).v = y at hyI d ⊢
        refine d_app (m := 1) (D.sel [1] d) (src_of (gc1 (D.sel [1] d)) rfl (ones rfl) 1) rfl (by omega) (by omega) (by omega) (ones rfl) fun v1 w d => ?_
        repeat (simp +decide only [SEM])
        rw [hw1]
        refine ⟨⟨v1, i + 1, M ++ [y], by simp, by omega, by simp [hM], fun t ht => ?_, ?_⟩, by omega⟩
        · rcases List.mem_append.1 ht with ht | ht
          · exact hMI t ht
          · rw [List.mem_singleton.1 ht]; exact hyI
        · rw [List.length_append, List.flatMap_append, List.flatMap_singleton]
          exact (D.sel [1, 0] d).tail
      all_goals
        repeat (refine bsl1 (by first | rfl | (simp only [cells_agg, cells_int, cells_bool, cells_ptr, cells_sl, cells_map, cells_fn, List.drop_succ_cons, List.drop_zero, List.take_succ_cons, List.take_zero, Nat.zero_add, Nat.reduceAdd, Int.toNat_natCast, Int.toNat_zero]; rfl)) rfl d (by decide) (by decide) fun bn w d => ?_)
        refine d_app (m := 1) (D.sel [1] d) (src_of (gc1 (D.sel [1] d)) rfl (ones rfl) 1) rfl (by omega) (by omega) (by omega) (ones rfl) fun v1 w d => ?_
        repeat (simp +decide only [SEM])
        rw [hw1]
        refine ⟨⟨v1, i + 1, M ++ [y], by simp, by omega, by simp [hM], fun t ht => ?_, ?_⟩, by omega⟩
        · rcases List.mem_append.1 ht with ht | ht
          · exact hMI t ht
          · rw [List.mem_singleton.1 ht]; exact hyI
        · rw [List.length_append, List.flatMap_append, List.flatMap_singleton]
          exact (D.sel [1, 0] d).tail
    · have d : D w0 (cel bo 51 [.int .i64 kd, .int .i64 v, .int .i64 nth, .int .i64 n, .int .i64 want, .int .i64 dr, .int .i64 o, .int .i64 kk, .int .i64 r, .slice ql l.length cl] :: Rw 3 1 (.slice pm M.length cm) M.length (M.flatMap nc) :: Tb b cap S :: Rt c cap S :: L) w := (D.sel [2, 3, 1, 0] d).tail.tail
      have hM6 : M.length ≤ 65536 := by omega
      have hS6 : S.length ≤ 65536 := by omega
      clear hi hlI ho hl
      repeat (first | (simp +decide only [SEM]) | (apply ldm d; (focus ((repeat (first | exact .h _ | refine .t _ _ ?_)); done)); (focus rfl)))
      refine ⟨fun h1 => ?_, fun h1 => ?_⟩
      · repeat (first | (simp +decide only [SEM]) | (apply ldm d; (focus ((repeat (first | exact .h _ | refine .t _ _ ?_)); done)); (focus rfl)) | (apply lpm d; (focus ((repeat (first | exact .h _ | refine .t _ _ ?_)); done)); (focus (simp only [SEM]; rfl)); (focus rfl)))
        by_cases hc : cnt S = cap
        · refine fn30 (fun _ _ => rfl) (Add_full rfl hc (D.sel [2] d) fun w d => ?_)
          repeat (first | refine drw d fun w d => ?_ | (simp +decide only [SEM]) | refine qt d ?_ | refine qe_nil ?_)
          refine qe (.agg #[.int .i64 o, .int .i64 kk, .int .i64 r]) (fun w d => lpm (o := 6) d (.t _ _ (.h _)) rfl rfl ⟨rfl, rfl⟩) ?_
          repeat (first | refine qe_nil ?_ | (apply qlm; (focus ((repeat (first | exact .h _ | refine .t _ _ ?_)); done)); (focus rfl)))
          refine fn10 (fun _ _ => rfl) (ref_ok d fun w d => ?_)
          refine ch d ?_
          refine fn30 (fun _ _ => rfl) (RAdd_full rfl hS hc (D.sel [3] d) fun w d => ?_)
          refine qt d ?_
          refine qe_ext (v := .int .i64 0) rfl ?_
          refine qe_ext (v := .int .i64 (-4)) rfl ?_
          repeat (simp +decide only [SEM])
          exact k S w hS hg (D.sel [2, 3, 1, 0] d).tail.tail
        · have h6 := fre_lt hS hc
          refine fn30 (fun _ _ => rfl) (Add_ok rfl hS hc (D.sel [2] d) fun w d => ?_)
          repeat (first | refine drw d fun w d => ?_ | (simp +decide only [SEM]) | refine qt d ?_ | refine qe_nil ?_)
          refine qe (.agg #[.int .i64 o, .int .i64 kk, .int .i64 r]) (fun w d => lpm (o := 6) d (.t _ _ (.h _)) rfl rfl ⟨rfl, rfl⟩) ?_
          repeat (first | refine qe_nil ?_ | (apply qlm; (focus ((repeat (first | exact .h _ | refine .t _ _ ?_)); done)); (focus rfl)))
          refine fn10 (fun _ _ => rfl) (ref_ok d fun w d => ?_)
          refine ch d ?_
          refine fn30 (fun _ _ => rfl) (RAdd_ok rfl hdr hS hc (D.sel [3] d) fun w d => ?_)
          have a1 := (adS_ok' (o := o) (kd := kk) (r := r) (hval_ne (a := (fre S : Int)) (d := dr) ⟨by omega, by omega⟩) hS hc).1
          have a2 := hg.ad h6 (dr := dr) (o := o) (k := kk) (r := r)
          generalize hval (fre S : Int) dr = hvv at d a1 a2 ⊢
          refine qt d ?_
          refine qe_ext (v := .int .i64 hvv) rfl ?_
          refine qe_ext (v := .int .i64 0) rfl ?_
          repeat (simp +decide only [SEM])
          exact k _ w a1 a2 (D.sel [2, 3, 1, 0] d).tail.tail
      · refine ⟨fun h2 => ?_, fun h2 => ?_⟩
        · obtain ⟨⟨xv, xo, xk, xr⟩, hx⟩ : ∃ x, fndX S z 0 0 = x := ⟨_, rfl⟩
          obtain ⟨s, hs⟩ : ∃ s, fndS S z 0 0 = s := ⟨_, rfl⟩
          refine fn20 (fun _ _ => rfl) (Get_r hz (D.sel [2] d) fun w d => ?_)
          rw [hx, hs]
          simp only [Slot.ent, ent]
          repeat (first | (simp +decide only [SEM]) | (refine d_new _ d fun bn w d => ?_) | (apply swm d; (focus ((repeat (first | exact .h _ | apply Rp.t)); done)); (focus rfl); (focus rfl); (focus exact ones rfl); intro w d; simp only [SPL] at d))
          generalize bn = b22 at d ⊢
          refine fn40 (fun _ _ => rfl) (Look_r hg hS6 (D.sel [4] d) fun w d => ?_)
          rw [hx, hs]
          simp only [Slot.ent, ent]
          repeat (first | refine drw d fun w d => ?_ | (simp +decide only [SEM]) | (refine d_new _ d fun bn w d => ?_) | refine qt d ?_ | (apply qam; (focus ((repeat (first | exact .h _ | refine .t _ _ ?_)); done)); (focus rfl)) | (apply swm d; (focus ((repeat (first | exact .h _ | apply Rp.t)); done)); (focus rfl); (focus rfl); (focus exact ones rfl); intro w d; simp only [SPL] at d))
          refine fn10 (fun _ _ => rfl) (ref_ok d fun w d => ?_)
          refine ch d ?_
          refine eqs3t ?_
          repeat (first | (simp +decide only [SEM]) | refine qt d ?_)
          exact k S w hS hg (D.sel [0, 2, 4, 5, 3, 1] d).tail.tail.tail.tail
        · refine ⟨fun h3 => ?_, fun h3 => ?_⟩
          · obtain ⟨⟨xv, xo, xk, xr⟩, hx⟩ : ∃ x, fndX S z n want = x := ⟨_, rfl⟩
            obtain ⟨s, hs⟩ : ∃ s, fndS S z n want = s := ⟨_, rfl⟩
            repeat (apply ldm d; (focus ((repeat (first | exact .h _ | refine .t _ _ ?_)); done)); (focus rfl))
            refine fn40 (fun _ _ => rfl) (Find_r hz (D.sel [2] d) fun w d => ?_)
            rw [hx, hs]
            simp only [Slot.ent, ent]
            repeat (first | (simp +decide only [SEM]) | (apply ldm d; (focus ((repeat (first | exact .h _ | refine .t _ _ ?_)); done)); (focus rfl)) | (refine d_new _ d fun bn w d => ?_) | (apply swm d; (focus ((repeat (first | exact .h _ | apply Rp.t)); done)); (focus rfl); (focus rfl); (focus exact ones rfl); intro w d; simp only [SPL] at d))
            generalize bn = b22 at d ⊢
            refine fn40 (fun _ _ => rfl) (Look_r hg hS6 (D.sel [4] d) fun w d => ?_)
            rw [hx, hs]
            simp only [Slot.ent, ent]
            repeat (first | refine drw d fun w d => ?_ | (simp +decide only [SEM]) | (refine d_new _ d fun bn w d => ?_) | refine qt d ?_ | (apply qam; (focus ((repeat (first | exact .h _ | refine .t _ _ ?_)); done)); (focus rfl)) | (apply swm d; (focus ((repeat (first | exact .h _ | apply Rp.t)); done)); (focus rfl); (focus rfl); (focus exact ones rfl); intro w d; simp only [SPL] at d))
            refine fn10 (fun _ _ => rfl) (ref_ok d fun w d => ?_)
            refine ch d ?_
            refine eqs3t ?_
            repeat (first | (simp +decide only [SEM]) | refine qt d ?_)
            exact k S w hS hg (D.sel [0, 2, 4, 5, 3, 1] d).tail.tail.tail.tail
          · refine ⟨fun h4 => ?_, fun h4 => ?_⟩
            · obtain ⟨⟨xv, xo, xk, xr⟩, hx⟩ : ∃ x, clx S z = x := ⟨_, rfl⟩
              obtain ⟨s, hs⟩ : ∃ s : Int, (if look S z = none then -11 else 0) = s := ⟨_, rfl⟩
              refine fn20 (fun _ _ => rfl) (Close_any hz hS (D.sel [2] d) fun _ w d => ?_)
              rw [hx, hs]
              simp only [Slot.ent, ent]
              repeat (first | (simp +decide only [SEM]) | (refine d_new _ d fun bn w d => ?_) | (apply swm d; (focus ((repeat (first | exact .h _ | apply Rp.t)); done)); (focus rfl); (focus rfl); (focus exact ones rfl); intro w d; simp only [SPL] at d))
              generalize bn = b22 at d ⊢
              refine fn20 (fun _ _ => rfl) (RClose_any hg hS6 (D.sel [4] d) fun w d => ?_)
              rw [hx, hs]
              simp only [Slot.ent, ent]
              repeat (first | refine drw d fun w d => ?_ | (simp +decide only [SEM]) | (refine d_new _ d fun bn w d => ?_) | refine qt d ?_ | (apply qam; (focus ((repeat (first | exact .h _ | refine .t _ _ ?_)); done)); (focus rfl)) | (apply swm d; (focus ((repeat (first | exact .h _ | apply Rp.t)); done)); (focus rfl); (focus rfl); (focus exact ones rfl); intro w d; simp only [SPL] at d))
              refine fn10 (fun _ _ => rfl) (ref_ok d fun w d => ?_)
              refine ch d ?_
              refine eqs3t ?_
              repeat (first | (simp +decide only [SEM]) | refine qt d ?_)
              exact k _ w (clo_tok hS) (hg.clo z) (D.sel [0, 2, 4, 5, 3, 1] d).tail.tail.tail.tail
            · refine ⟨fun h5 => ?_, fun h5 => ?_⟩
              · repeat (refine bsl0 d fun bn w d => ?_)
                refine copy_ints hM6 (D.sel [0, 2] d) fun v5 w d => ?_
                obtain ⟨p5, c5, rfl, -⟩ := Rw.shape d.1
                refine fn20 (fun _ _ => rfl) (CloseMany_ok hM6 hMI hS (by rw [ints_nc]; exact D.sel [0, 3] d) fun hT sv5 w d => ?_)
                rw [ints_nc] at d
                obtain ⟨p6, c6, rfl, -⟩ := Rw.shape d.1
                repeat (simp +decide only [SEM])
                refine fn20 (fun _ _ => rfl) (RCloseMany_ok hg hS6 hM6 (D.sel [3, 5] d) fun sv6 w d => ?_)
                obtain ⟨p7, c7, rfl, -⟩ := Rw.shape d.1
                repeat (simp +decide only [SEM])
                refine fn20 (fun _ _ => rfl) (same_ok (Nat.le_trans (cmX_len S M) hM6) (D.sel [3, 0] d) fun w d => ?_)
                repeat (simp +decide only [SEM])
                exact k _ w hT (hg.cloN M) (D.sel [0, 1, 2, 4, 6, 5, 3] d).tail.tail.tail.tail.tail
              · refine ⟨fun h6 => ?_, fun h6 => ?_⟩
                · repeat (refine bsl0 d fun bn w d => ?_)
                  refine copy_ints hM6 (D.sel [0, 2] d) fun v5 w d => ?_
                  obtain ⟨p5, c5, rfl, -⟩ := Rw.shape d.1
                  refine fn20 (fun _ _ => rfl) (Take_ok hM6 hMI hS (by rw [ints_nc]; exact D.sel [0, 3] d) (fun ht w d => ?_) fun ht hT sv5 w d => ?_)
                  · rw [ints_nc] at d
                    repeat (simp +decide only [SEM])
                    refine fn20 (fun _ _ => rfl) (RTake_ok hg hS6 hM6 (D.sel [2, 4] d) (fun ht2 w d => ?_) fun ht2 => absurd ht2 ht)
                    repeat (simp +decide only [SEM])
                    have d2 : D w0 (Rw 35 3 (.slice none 0 0) 0 [] :: Rw 89 3 (.slice none 0 0) 0 [] :: _) w := ⟨Rw.nil _ _ (Rw.nil _ _ d.1), d.2⟩
                    refine fn20 (fun _ _ => rfl) (same_ok (X := []) (by simp) d2 fun w d => ?_)
                    repeat (simp +decide only [SEM])
                    exact k _ w hS hg (D.sel [0, 1, 2, 4, 6, 5, 3] d).tail.tail.tail.tail.tail
                  · rw [ints_nc] at d
                    obtain ⟨p6, c6, rfl, -⟩ := Rw.shape d.1
                    repeat (simp +decide only [SEM])
                    refine fn20 (fun _ _ => rfl) (RTake_ok hg hS6 hM6 (D.sel [3, 5] d) (fun ht2 => absurd ht ht2) fun ht2 sv6 w d => ?_)
                    obtain ⟨p7, c7, rfl, -⟩ := Rw.shape d.1
                    repeat (simp +decide only [SEM])
                    have hcl := clxN_len S M
                    generalize M.length = mm at *
                    subst hcl
                    refine fn20 (fun _ _ => rfl) (same_ok (X := clxN S M) hM6 (D.sel [3, 0] d) fun w d => ?_)
                    repeat (simp +decide only [SEM])
                    exact k _ w hT (hg.cloN M) (D.sel [0, 1, 2, 4, 6, 5, 3] d).tail.tail.tail.tail.tail
                · refine ⟨fun h7 => ?_, fun h7 => ?_⟩
                  · obtain ⟨⟨r1, r2, r3⟩, hr⟩ : ∃ x, dupR cap S z want dr = x := ⟨_, rfl⟩
                    have hi := dup_inv (v := z) (want := want) (dr := dr) hS hg
                    rw [hr] at hi
                    repeat (apply ldm d; (focus ((repeat (first | exact .h _ | refine .t _ _ ?_)); done)); (focus rfl))
                    refine fn40 (fun _ _ => rfl) (Duplicate_r hz hS (D.sel [2] d) fun w d => ?_)
                    rw [hr] at d ⊢
                    repeat (first | (simp +decide only [SEM]) | (apply ldm d; (focus ((repeat (first | exact .h _ | refine .t _ _ ?_)); done)); (focus rfl)))
                    refine fn40 (fun _ _ => rfl) (RDuplicate_ok hg hdr hwt hS (D.sel [3] d) fun w d => ?_)
                    rw [hr] at d ⊢
                    repeat (simp +decide only [SEM])
                    exact k _ w hi.1 hi.2 (D.sel [2, 3, 1, 0] d).tail.tail
                  · refine ⟨fun h8 => ?_, fun h8 => ?_⟩
                    · obtain ⟨⟨r1, ⟨xv, xo, xk, xr⟩, r2, r3⟩, hr⟩ : ∃ x, rplR S z want dr = x := ⟨_, rfl⟩
                      have hi := rpl_inv (cap := cap) (v := z) (want := want) (dr := dr) hS hg
                      rw [hr] at hi
                      repeat (apply ldm d; (focus ((repeat (first | exact .h _ | refine .t _ _ ?_)); done)); (focus rfl))
                      refine fn40 (fun _ _ => rfl) (Replace_r hz hS (D.sel [2] d) fun w d => ?_)
                      rw [hr] at d ⊢
                      simp only [Slot.ent, ent]
                      repeat (first | (simp +decide only [SEM]) | (apply ldm d; (focus ((repeat (first | exact .h _ | refine .t _ _ ?_)); done)); (focus rfl)) | (refine d_new _ d fun bn w d => ?_) | (apply swm d; (focus ((repeat (first | exact .h _ | apply Rp.t)); done)); (focus rfl); (focus rfl); (focus exact ones rfl); intro w d; simp only [SPL] at d))
                      generalize bn = b22 at d ⊢
                      refine fn40 (fun _ _ => rfl) (RReplace_ok hg hdr hwt hS (D.sel [4] d) fun w d => ?_)
                      rw [hr] at d ⊢
                      simp only [Slot.ent, ent]
                      repeat (first | refine drw d fun w d => ?_ | (simp +decide only [SEM]) | (refine d_new _ d fun bn w d => ?_) | refine qt d ?_ | (apply qam; (focus ((repeat (first | exact .h _ | refine .t _ _ ?_)); done)); (focus rfl)) | (apply swm d; (focus ((repeat (first | exact .h _ | apply Rp.t)); done)); (focus rfl); (focus rfl); (focus exact ones rfl); intro w d; simp only [SPL] at d))
                      refine fn10 (fun _ _ => rfl) (ref_ok d fun w d => ?_)
                      refine ch d ?_
                      refine eqs3t ?_
                      repeat (first | (simp +decide only [SEM]) | refine qt d ?_)
                      exact k _ w hi.1 hi.2 (D.sel [0, 2, 4, 5, 3, 1] d).tail.tail.tail.tail
                    · refine ⟨fun h9 => ?_, fun h9 => k S w hS hg d.tail.tail⟩
                      refine fn10 (fun _ _ => rfl) (RAll_ok hS6 (D.sel [3] d) fun sv9 se9 w d => ?_)
                      obtain ⟨p8, c8, rfl, -⟩ := Rw.shape d.tail.1
                      obtain ⟨v1, v2, d⟩ := Rt.out (D.sel [2] d)
                      obtain ⟨q8, cq8, rfl, -⟩ := Rw.shape d.tail.1
                      obtain ⟨q9, cq9, rfl, -⟩ := Rw.shape d.tail.tail.1
                      repeat (first | (simp +decide only [SEM]) | (apply stm d; (focus ((repeat (first | exact .h _ | apply Rp.t)); done)); (focus rfl); (focus simp); (focus exact ones rfl); intro w d; simp only [SPL] at d))
                      refine fn10 (fun _ _ => rfl) (Clear_ok hS (D.sel [7] d) fun p9 c9 w d => ?_)
                      refine fn20 (fun _ _ => rfl) (same_ok hT6 (D.sel [0, 6] d) fun w d => ?_)
                      have d1 : D w0 (cel c 61 [.slice none 0 0, .slice none 0 0, .int .i64 cap] :: Tb b cap [] :: L) w := (D.sel [0, 1, 4, 5, 6, 7, 8, 3, 2] d).tail.tail.tail.tail.tail.tail.tail
                      have d2 : D w0 (Rw 3 1 (.slice none 0 0) 0 [] :: Rw 89 3 (.slice none 0 0) 0 [] :: cel c 61 [.slice none 0 0, .slice none 0 0, .int .i64 cap] :: Tb b cap [] :: L) w := ⟨Rw.nil _ _ (Rw.nil _ _ d1.1), d1.2⟩
                      exact k [] w ⟨by simp; omega, hS2⟩ (fun p x hx => by simp at hx) (Rt.mk (S := []) (D.sel [2, 0, 1] d2)).swap
  repeat (first | (simp +decide only [SEM]) | (apply ldm d; (focus ((repeat (first | exact .h _ | refine .t _ _ ?_)); done)); (focus rfl)))
  refine ⟨fun h0 => ?_, fun h0 => fin v w hv d⟩
  repeat (first | (simp +decide only [SEM]) | (apply ldm d; (focus ((repeat (first | exact .h _ | refine .t _ _ ?_)); done)); (focus rfl)))
  refine ⟨fun h1 => ?_, fun h1 => fin v w hv d⟩
  obtain ⟨m, rfl⟩ := Int.eq_ofNat_of_zero_le h0
  have hm2 : m < (tkn S).length := by omega
  have hyI := hg.i64 (List.getElem?_eq_getElem hm2)
  repeat (first | (apply ldm d; (focus ((repeat (first | exact .h _ | refine .t _ _ ?_)); done)); (focus rfl)) | (focus (apply rw_el1 d; (focus ((repeat (first | exact .h _ | refine .t _ _ ?_)); done)); (focus exact fun _ => rfl); (focus rfl); rotate_left; (focus (first | omega | (simp; done) | (simp; omega))))))
  exact fin _ w hyI d
end
end Go.Proofs.Ytgcnebacjkpfmaa
