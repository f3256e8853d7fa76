/- Timers: up and down. -/
import Derived.Test.YthpkkbmiockloaaTa
set_option maxRecDepth 100000
set_option maxHeartbeats 4000000
namespace Go.Proofs.Ythpkkbmiockloaa
open Go Go.Jac
theorem pa_int {i : Nat} (h : 0 < i) (h2 : i ≤ 65536) : IntKind.i64.wrap ((IntKind.i64.wrap ((i : Int) - 1)).tdiv 2) = ((pa i : Nat) : Int) := by
  rw [w64 (n := (i : Int) - 1) (by omega) (by omega), Int.tdiv_eq_ediv_of_nonneg (by omega), w64 (by omega) (by omega)]
  unfold pa; omega
section
variable {w0 w : World} {L : List HP} {K : Value → WP} {b n : Nat} {most now : Int} {H : List Te} {g : G} {sv : Value}
theorem up_ok {i : Nat} (hc : Cons H g) (hi : i < H.length) (hb : HB H i) (hlen : H.length ≤ 65536) (d : D w0 (Tx b most now H g n :: L) w)
    (k : ∀ H' g' i' w', Cons H' g' → H'.Perm H → i' < H'.length → at_ H' i' = at_ H i → HB H' i' → Pr H' i' → (Ch H i → Ch H' i') → D w0 (Tx b most now H' g' n :: L) w' → K (.tuple #[]) w') :
    Cl pg 25 #[.pointer (some ⟨b, 0, none⟩), .int .i64 i] K w := by
  refine V.timer_Timers_up_ok ?_
  unfold V.timer_Timers_up
  obtain ⟨sv, bm, d⟩ := Tx.out d
  repeat (first | (simp +decide only [SEM]) | (apply ldm d; (focus ((repeat (first | exact .h _ | refine .t _ _ ?_)); done)); (focus rfl)) | (refine d_new _ d fun bn w d => ?_) | (apply swm d; (focus ((repeat (first | exact .h _ | apply Rp.t)); done)); (focus rfl); (focus rfl); (focus exact ones rfl); intro w d; simp only [SPL] at d) | (focus (apply rw_elN d; (focus ((repeat (first | exact .h _ | refine .t _ _ ?_)); done)); (focus exact fun _ => rfl); rotate_left; (focus (first | omega | (simp; done) | (simp; omega))))))
  have d1 : D w0 (cel bn 62 (ec (at_ H i)) :: Tx b most now H g n :: L) w := by
    rw [at_get hi]
    exact D.swap (Tx.mk (D.sel [1, 2, 3] d))
  refine ⟨fun vs w' => ∃ (j : Nat) (bx : Nat) (H' : List Te) (g' : G), vs = [.int .i64 j, .pointer (some ⟨bx, 0, none⟩)] ∧ Cons H' g' ∧ H'.Perm H ∧ j < H'.length ∧ at_ H' j = at_ H i ∧ HB H' j ∧ (Ch H i → Ch H' j) ∧ D w0 (cel bx 62 (ec (at_ H i)) :: Tx b most now H' g' n :: L) w',
    fun vs _ => match vs with | [.int _ j, _] => j.toNat | _ => 0, ⟨i, bn, H, g, rfl, hc, .refl _, hi, rfl, hb, id, d1⟩, ?_⟩
  rintro _ w ⟨j, bx, H', g', rfl, hc, hp, hj, he, hb, hch, d⟩ _
  simp only [UN]
  have hl := hp.length_eq
  repeat (simp +decide only [SEM])
  refine ⟨fun h0 => ?_, fun h0 => ?_⟩
  · have h0' : 0 < j := by omega
    have hpl := pa_lt h0'
    simp only [pa_int h0' (by omega)]
    obtain ⟨sv, bm, d⟩ := Tx.out d.swap
    obtain ⟨b1, c1, rfl⟩ := rw_ptr d (.t _ _ (.h _)) (by omega)
    repeat (first | refine drw d fun w d => ?_ | (simp +decide only [SEM]) | refine qt d ?_ | refine qe_nil ?_ | (apply qlm; (focus ((repeat (first | exact .h _ | refine .t _ _ ?_)); done)); (focus rfl)) | (apply qam; (focus ((repeat (first | exact .h _ | refine .t _ _ ?_)); done)); (focus rfl)) | refine qia (by first | omega | (simp; omega)) ?_ | (focus (apply qln; (focus ((repeat (first | exact .h _ | refine .t _ _ ?_)); done)); (focus exact fun _ => rfl); rotate_left; (focus (first | omega | (simp; done) | (simp; omega))))))
    refine fn20 (fun _ _ => rfl) (order_ok d fun w d => ?_)
    have e1 : H'[pa j] = at_ H' (pa j) := (at_get (by omega)).symm
    repeat (simp +decide only [SEM])
    refine ⟨fun ho => k H' g' j _ hc hp hj he hb (fun _ => ?_) hch (Tx.mk (D.sel [0, 1, 2] d) |> fun d => D.tail2 d), fun ho => ?_⟩
    · rw [he, ← e1]; exact ord_le.1 ho
    · have hnl : ¬ le (at_ H' (pa j)) (at_ H' j) := fun h => ho (by rw [e1, ← he]; exact ord_le.2 h)
      repeat (first | (apply ldm d; (focus ((repeat (first | exact .h _ | refine .t _ _ ?_)); done)); (focus rfl)) | (focus (apply rw_elN d; (focus ((repeat (first | exact .h _ | refine .t _ _ ?_)); done)); (focus exact fun _ => rfl); rotate_left; (focus (first | omega | (simp; done) | (simp; omega))))))
      have hk1 : (g' (at_ H' (pa j)).key).isSome = true := by rw [hc.to (pa j) (by omega)]; rfl
      have hne : (at_ H' (pa j)).key ≠ (at_ H' j).key := fun e => absurd (hc.inj (by omega) hj e) (by omega)
      have hk2 : (upd g' (at_ H' (pa j)).key (j : Int) (at_ H' j).key).isSome = true := by
        unfold upd
        rw [if_neg fun e => hne e.symm, hc.to j hj]; rfl
      refine fn30 (fun _ _ => rfl) (put_ok (x := H'[pa j]) hj (Tx.mk d) fun w d => ?_)
      rw [e1, if_pos hk1] at d
      repeat (apply lam d; (focus ((repeat (first | exact .h _ | refine .t _ _ ?_)); done)); (focus rfl))
      refine fn30 (fun _ _ => rfl) (put_ok (x := at_ H i) (i := pa j) (by simpa using by omega) d fun w d => ?_)
      rw [← he, if_pos hk2] at d
      have hsw : (H'.set j (at_ H' (pa j))).set (pa j) (at_ H' j) = swap H' (pa j) j := by
        unfold swap; rw [List.set_comm _ _ (by omega)]
      rw [hsw, he] at d
      repeat (first | (apply lam d; (focus ((repeat (first | exact .h _ | refine .t _ _ ?_)); done)); (focus rfl)) | (refine d_new _ d fun bn w d => ?_) | (apply swm d; (focus ((repeat (first | exact .h _ | apply Rp.t)); done)); (focus rfl); (focus rfl); (focus exact ones rfl); intro w d; simp only [SPL] at d))
      have hup := up_step hb h0' hj hnl
      have hcs := cons_swap hc (show pa j < H'.length by omega) hj (by omega)
      rw [he] at hcs
      exact ⟨⟨pa j, bn, _, _, rfl, hcs, (swap_perm (by omega) hj).trans hp, by rw [swap_len]; omega, by rw [at_swap (by omega) hj, if_neg (by omega), if_pos rfl]; exact he, hup.1, fun _ => hup.2, D.tail2 (D.sel [0, 2, 1] d) |> fun d => D.sel [0, 1] d⟩, hpl⟩
  · exact k H' g' j _ hc hp hj he hb (fun h => by omega) hch d.tail
theorem ch1_int {i : Nat} (h2 : i ≤ 65536) : IntKind.i64.wrap (IntKind.i64.wrap (2 * (i : Int)) + 1) = ((2 * i + 1 : Nat) : Int) := by
  rw [w64 (n := 2 * (i : Int)) (by omega) (by omega), w64 (by omega) (by omega)]; omega
theorem ch2_int {i : Nat} (h2 : i ≤ 65536) : IntKind.i64.wrap (IntKind.i64.wrap (2 * (i : Int)) + 2) = ((2 * i + 2 : Nat) : Int) := by
  rw [w64 (n := 2 * (i : Int)) (by omega) (by omega), w64 (by omega) (by omega)]; omega
theorem down_ok {i : Nat} (hc : Cons H g) (hi : i < H.length) (hb : HB H i) (hp : Pr H i) (hlen : H.length ≤ 65536) (d : D w0 (Tx b most now H g n :: L) w)
    (k : ∀ H' g' w', Cons H' g' → H'.Perm H → Heap H' → D w0 (Tx b most now H' g' n :: L) w' → K (.tuple #[]) w') :
    Cl pg 29 #[.pointer (some ⟨b, 0, none⟩), .int .i64 i] K w := by
  refine V.timer_Timers_down_ok ?_
  unfold V.timer_Timers_down
  refine ⟨fun vs w' => ∃ (j : Nat) (H' : List Te) (g' : G), vs = [.int .i64 j] ∧ Cons H' g' ∧ H'.Perm H ∧ j < H'.length ∧ HB H' j ∧ Pr H' j ∧ D w0 (Tx b most now H' g' n :: L) w',
    fun vs _ => match vs with | [.int _ j] => H.length - j.toNat | _ => 0, ⟨i, H, g, rfl, hc, .refl _, hi, hb, hp, d⟩, ?_⟩
  rintro _ w ⟨j, H', g', rfl, hc, hpm, hj, hb, hp, d⟩ _
  simp only [UN]
  have hl := hpm.length_eq
  intro K1 hK1
  -- behind the inner loop
  have fin : ∀ (c : Nat) w, c < H'.length → (∀ q, 0 < q → q < H'.length → pa q = j → le (at_ H' c) (at_ H' q)) → (c ≠ j → 0 < c ∧ pa c = j ∧ le (at_ H' c) (at_ H' j)) → D w0 (Tx b most now H' g' n :: L) w → K1 [.int .i64 c] w := by
    intro c w hcl hall hne d
    refine hK1 _ _ ?_
    intro _
    simp only [UN]
    repeat (simp +decide only [SEM])
    refine ⟨fun h => ?_, fun h => ?_⟩
    · have e : c = j := by omega
      subst e
      exact k H' g' _ hc hpm (heap_of hb hall hp) d
    · have hcj : c ≠ j := by omega
      obtain ⟨h0, h1, h2⟩ := hne hcj
      have hjc := pa_lt h0
      refine drw d fun w d => ?_
      intro K2 hK2
      obtain ⟨sv, bm, d⟩ := Tx.out d
      obtain ⟨b1, c1, rfl⟩ := rw_ptr d (.t _ _ (.h _)) (by omega)
      have done : ∀ (b6 b7 : Nat) w, D w0 (cel b6 62 (ec H'[j]) :: cel b7 62 [.int .i64 0, .int .i64 0] :: cel b 60 [.slice (some ⟨b1, 0, none⟩) H'.length c1, .map (some bm), .int .i64 most, .int .i64 now] :: Rw 62 2 (.slice (some ⟨b1, 0, none⟩) H'.length c1) H'.length (H'.flatMap ec) :: Mp bm (gv g') n :: L) w →
          K2 [.agg (ec H'[c]).toArray, .pointer (some ⟨b6, 0, none⟩), .pointer (some ⟨b7, 0, none⟩)] w := by
        intro b6 b7 w d
        refine hK2 _ _ ?_
        intro _
        simp only [UN]
        repeat (first | (apply lam d; (focus ((repeat (first | exact .h _ | refine .t _ _ ?_)); done)); (focus rfl)) | (apply swm d; (focus ((repeat (first | exact .h _ | apply Rp.t)); done)); (focus rfl); (focus rfl); (focus exact ones rfl); intro w d; simp only [SPL] at d))
        have e1 : H'[j] = at_ H' j := (at_get (by omega)).symm
        have e2 : H'[c] = at_ H' c := (at_get (by omega)).symm
        have hne' : (at_ H' j).key ≠ (at_ H' c).key := fun e => absurd (hc.inj (by omega) hcl e) (by omega)
        have d := Tx.mk (D.sel [2, 3, 4, 0, 1] d)
        refine fn30 (fun _ _ => rfl) (put_ok (x := H'[c]) hj d fun w d => ?_)
        rw [e2, if_pos (by rw [hc.to c hcl]; rfl)] at d
        repeat (apply lam d; (focus ((repeat (first | exact .h _ | refine .t _ _ ?_)); done)); (focus rfl))
        refine fn30 (fun _ _ => rfl) (put_ok (x := H'[j]) (i := c) (by simpa using hcl) d fun w d => ?_)
        have hk2 : (upd g' (at_ H' c).key (j : Int) (at_ H' j).key).isSome = true := by
          unfold upd
          rw [if_neg hne', hc.to j hj]; rfl
        rw [e1, if_pos hk2] at d
        have hsw : (H'.set j (at_ H' c)).set c (at_ H' j) = swap H' j c := rfl
        have hgg : upd (upd g' (at_ H' c).key (j : Int)) (at_ H' j).key (c : Int) = upd (upd g' (at_ H' j).key (c : Int)) (at_ H' c).key (j : Int) := by
          funext q
          unfold upd
          by_cases q1 : q = (at_ H' j).key
          · subst q1; rw [if_pos rfl, if_neg hne', if_pos rfl]
          · rw [if_neg q1, if_neg q1]
        rw [hsw, hgg] at d
        have hds := down_step hb hp h0 hcl h1 h2 hall
        exact ⟨⟨c, _, _, rfl, cons_swap hc hj hcl (by omega), (swap_perm hj hcl).trans hpm, by rw [swap_len]; exact hcl, hds.1, hds.2, D.tail2 (D.tail2 d)⟩, by show H.length - ((c : Int)).toNat < H.length - ((j : Int)).toNat; omega⟩
      repeat (first | refine qt d ?_ | refine qe_nil ?_ | (apply qlm; (focus ((repeat (first | exact .h _ | refine .t _ _ ?_)); done)); (focus rfl)) | refine qia (by first | omega | (simp; omega)) ?_ | (focus (apply qln; (focus ((repeat (first | exact .h _ | refine .t _ _ ?_)); done)); (focus exact fun _ => rfl); rotate_left; (focus (first | omega | (simp; done) | (simp; omega))))))
      refine ⟨?_, ?_⟩
      · repeat (first | (refine d_new _ d fun bn w d => ?_) | (apply swm d; (focus ((repeat (first | exact .h _ | apply Rp.t)); done)); (focus rfl); (focus rfl); (focus exact ones rfl); intro w d; simp only [SPL] at d) | refine ch (D.tail d) ?_ | refine ch (D.tail (D.tail d)) ?_)
        exact done _ _ _ (D.swap d)
      · repeat (first | (refine d_new _ d fun bn w d => ?_) | (apply swm d; (focus ((repeat (first | exact .h _ | apply Rp.t)); done)); (focus rfl); (focus rfl); (focus exact ones rfl); intro w d; simp only [SPL] at d) | refine ch (D.tail d) ?_ | refine ch (D.tail (D.tail d)) ?_)
        exact done _ _ _ d
  repeat (simp +decide only [SEM])
  simp only [ch1_int (show j ≤ 65536 by omega)]
  refine ⟨fun vs w => ∃ (c q : Nat), vs = [.int .i64 c, .int .i64 q] ∧ 2 * j + 1 ≤ q ∧ q ≤ 2 * j + 3 ∧ c < H'.length ∧ (∀ r, 0 < r → r < H'.length → pa r = j → r < q → le (at_ H' c) (at_ H' r)) ∧ (c ≠ j → 0 < c ∧ pa c = j) ∧ le (at_ H' c) (at_ H' j) ∧ D w0 (Tx b most now H' g' n :: L) w,
    fun vs _ => match vs with | [_, .int _ q] => 2 * j + 3 - q.toNat | _ => 0, ⟨j, 2 * j + 1, rfl, by omega, by omega, hj, fun r r0 rl rp rq => by unfold pa at rp; omega, fun h => absurd rfl h, by unfold le; omega, d⟩, ?_⟩
  rintro _ w ⟨c, q, rfl, hq1, hq2, hcl, hall, hcc, hle, d⟩ _
  simp only [UN]
  have exit : (∀ r, 0 < r → r < H'.length → pa r = j → r < q) → K1 [.int .i64 c] w := fun h =>
    fin c w hcl (fun r r0 rl rp => hall r r0 rl rp (h r r0 rl rp)) (fun h => ⟨(hcc h).1, (hcc h).2, hle⟩) d
  repeat (simp +decide only [SEM])
  simp only [ch2_int (show j ≤ 65536 by omega)]
  refine ⟨fun h1 => ?_, fun h1 => exit fun r r0 rl rp => by unfold pa at rp; omega⟩
  obtain ⟨sv, bm, d⟩ := Tx.out d
  obtain ⟨b1, c1, rfl⟩ := rw_ptr d (.t _ _ (.h _)) (by omega)
  repeat (first | (simp +decide only [SEM]) | (apply ldm d; (focus ((repeat (first | exact .h _ | refine .t _ _ ?_)); done)); (focus rfl)))
  refine ⟨fun h2 => exit fun r r0 rl rp => by unfold pa at rp; omega, fun h2 => ?_⟩
  have hql : q < H'.length := by omega
  repeat (first | refine drw d fun w d => ?_ | refine qt d ?_ | refine qe_nil ?_ | (apply qlm; (focus ((repeat (first | exact .h _ | refine .t _ _ ?_)); done)); (focus rfl)) | refine qia (by first | omega | (simp; omega)) ?_ | (focus (apply qln; (focus ((repeat (first | exact .h _ | refine .t _ _ ?_)); done)); (focus exact fun _ => rfl); rotate_left; (focus (first | omega | (simp; done) | (simp; omega))))))
  refine fn20 (fun _ _ => rfl) (order_ok d fun w d => ?_)
  have e1 : H'[q] = at_ H' q := (at_get hql).symm
  have e2 : H'[c] = at_ H' c := (at_get hcl).symm
  have hpq : pa q = j := by unfold pa; omega
  repeat (simp +decide only [SEM])
  rw [w64 (by omega) (by omega), e1, e2]
  refine ⟨fun ho => ?_, fun ho => ?_⟩
  · have hlt := ord_lt.1 ho
    have hqc : le (at_ H' q) (at_ H' c) := (le_total _ _).resolve_left hlt
    exact ⟨⟨q, q + 1, by simp, by omega, by omega, hql, fun r r0 rl rp rq => by
        by_cases e : r = q
        · subst e; unfold le; omega
        · exact le_trans hqc (hall r r0 rl rp (by omega)), fun _ => ⟨by omega, hpq⟩, le_trans hqc hle, Tx.mk d⟩, by show 2 * j + 3 - ((q : Int) + 1).toNat < 2 * j + 3 - (q : Int).toNat; omega⟩
  · have hcq : le (at_ H' c) (at_ H' q) := Classical.byContradiction fun h => ho (ord_lt.2 h)
    exact ⟨⟨c, q + 1, by simp, by omega, by omega, hcl, fun r r0 rl rp rq => by
        by_cases e : r = q
        · subst e; exact hcq
        · exact hall r r0 rl rp (by omega), hcc, hle, Tx.mk d⟩, by show 2 * j + 3 - ((q : Int) + 1).toNat < 2 * j + 3 - (q : Int).toNat; omega⟩
end
end Go.Proofs.Ythpkkbmiockloaa
