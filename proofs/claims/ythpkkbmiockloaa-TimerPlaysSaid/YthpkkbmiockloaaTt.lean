/- Timers: the law of plays. -/
import Derived.Test.YthpkkbmiockloaaTq
import Derived.Test.YthpkkbmiockloaaTm
import Derived.Test.YthpkkbmiockloaaR
set_option maxRecDepth 100000
set_option maxHeartbeats 8000000
namespace Go.Proofs.Ythpkkbmiockloaa
open Go Go.Jac
/-- One step of a script. -/
structure Op where
  kd : Int
  key : Int
  n : Int
def oc (x : Op) : List Value := [.int .i64 x.kd, .int .i64 x.key, .int .i64 x.n]
theorem oc_len (x : Op) : (oc x).length = 3 := rfl
theorem ops_of {w0 : World} {lv : Value} {n : Nat} (h : OldSl pg w0 45 3 lv n) : ∃ l : List Op, l.length = n ∧ (∀ x ∈ l, I64 x.n) ∧ OldL w0 3 oc lv l ∧ n ≤ maxLen := by
  refine h.list fun vs hv => ?_
  obtain ⟨x0, x1, x2, rfl, h0, h1, h2⟩ := rd45 hv
  exact ⟨⟨x0, x1, x2⟩, rfl, I64.of_wf h2⟩
theorem tix_nil {key : Int} : tix key [] = -1 := rfl
theorem tix_eq {key : Int} {x : Te} {r : List Te} (h : x.key = key) : tix key (x :: r) = 0 := by
  unfold tix fidx
  rw [List.findIdx_cons]
  simp [h]
theorem tix_ne {key : Int} {x : Te} {r : List Te} (h : x.key ≠ key) : tix key (x :: r) = if tix key r < 0 then -1 else tix key r + 1 := by
  unfold tix fidx
  rw [List.findIdx_cons]
  simp only [h, decide_false, cond_false, List.length_cons]
  by_cases hl : List.findIdx (fun x : Te => decide (x.key = key)) r < r.length
  · rw [if_pos (by omega), if_pos hl, if_neg (by omega)]; omega
  · rw [if_neg (by omega), if_neg hl]; simp
theorem tix_no {key : Int} : ∀ {S : List Te}, tix key S < 0 → ∀ x ∈ S, x.key ≠ key
  | [], _, x, hx => by cases hx
  | y :: r, h, x, hx => by
    by_cases e : y.key = key
    · rw [tix_eq e] at h; omega
    · rw [tix_ne e] at h
      rcases List.mem_cons.1 hx with rfl | hx
      · exact e
      · refine tix_no (S := r) ?_ x hx
        split at h
        · assumption
        · omega
theorem tix_yes {key : Int} {S : List Te} (h : 0 ≤ tix key S) : ∃ (q : Nat) (hq : q < S.length), tix key S = q ∧ S[q].key = key := by
  unfold tix fidx at *
  by_cases hl : List.findIdx (fun x : Te => decide (x.key = key)) S < S.length
  · rw [if_pos hl] at h ⊢
    refine ⟨_, hl, rfl, ?_⟩
    have := List.findIdx_getElem (p := fun x : Te => decide (x.key = key)) (xs := S) (w := hl)
    simpa using this
  · rw [if_neg hl] at h; omega
theorem drop_tix {key : Int} : ∀ {S : List Te}, (S.map (·.key)).Nodup → dropAt (tix key S) S = rem key S
  | [], _ => by unfold dropAt; simp [rem]
  | x :: r, hn => by
    rw [List.map_cons, List.nodup_cons] at hn
    by_cases e : x.key = key
    · rw [tix_eq e]
      have h1 : rem key r = r := rem_none fun y hy h2 => hn.1 (List.mem_map.2 ⟨y, hy, by rw [h2, e]⟩)
      have h2 : rem key (x :: r) = rem key r := by unfold rem; rw [List.filter_cons_of_neg (by simpa using e)]
      rw [h2, h1]; rfl
    · have ih := drop_tix (key := key) hn.2
      have h2 : rem key (x :: r) = x :: rem key r := by unfold rem; rw [List.filter_cons_of_pos (by simpa using e)]
      rw [tix_ne e, h2, ← ih]
      unfold dropAt
      by_cases h3 : tix key r < 0
      · rw [if_pos h3, if_neg (by omega), if_neg (by omega)]
      · rw [if_neg h3, if_pos (by omega), if_pos (by omega), show (tix key r + 1).toNat = (tix key r).toNat + 1 by omega]; rfl
theorem same_key {S : List Te} (hn : (S.map (·.key)).Nodup) {x y : Te} (hx : x ∈ S) (hy : y ∈ S) (e : x.key = y.key) : x = y := by
  induction S with
  | nil => cases hx
  | cons z r ih =>
    rw [List.map_cons, List.nodup_cons] at hn
    rcases List.mem_cons.1 hx with h1 | h1 <;> rcases List.mem_cons.1 hy with h2 | h2
    · rw [h1, h2]
    · exact absurd (List.mem_map.2 ⟨y, h2, by rw [← e, h1]⟩) hn.1
    · exact absurd (List.mem_map.2 ⟨x, h1, by rw [e, h2]⟩) hn.1
    · exact ih hn.2 h1 h2
theorem head_gt {c : Int} {R : List Te} (hs : R.Pairwise le) (h : ∀ x ∈ R.head?, c < x.dl) : ∀ x ∈ R, c < x.dl := by
  cases R with
  | nil => simp
  | cons y r =>
    rw [List.pairwise_cons] at hs
    have hy : c < y.dl := h y (by simp)
    intro x hx
    rcases List.mem_cons.1 hx with rfl | hx
    · exact hy
    · have := hs.1 x hx
      unfold le at this
      omega
section
variable {w0 w : World} {L : List HP} {K : Value → WP} {b n : Nat} {most now : Int} {S M : List Te} {sv lv v : Value}
theorem intsk_ok {P : List Te} {av bv : Value} (hP : P.length ≤ 65536) (d : D w0 (Rw 3 1 av P.length (P.flatMap kyc) :: Rw 3 1 bv P.length (P.flatMap kyc) :: L) w) (k : ∀ w', D w0 (Rw 3 1 av P.length (P.flatMap kyc) :: Rw 3 1 bv P.length (P.flatMap kyc) :: L) w' → K (.bool true) w') :
    Cl pg 16 #[av, bv] K w := by
  have hl : P.length = (P.map (·.key)).length := by simp
  rw [kyc_nc, hl] at d k
  exact ints_ok (by rw [List.length_map]; omega) d k
theorem Ro_nil {elem es : Nat} {h : Hp} (s : Sat L h) : Sat (Ro elem es (.slice none 0 0) 0 [] :: L) h := ⟨hE, h, Split.right _, .inl ⟨rfl, rfl, rfl⟩, s⟩
theorem plays_ok {l : List Op} (hmI : I64 most) (hl : l.length ≤ maxLen) (hop : ∀ x ∈ l, I64 x.n) (ho : OldL w0 3 oc lv l) (hm : Old w0 ∈ L) (d : D w0 L w) (k : ∀ w', D w0 L w' → K (.bool true) w') :
    Cl pg 7 #[.int .i64 most, lv] K w := by
  refine V.jacinthlaw14_TimerPlays_ok ?_
  unfold V.jacinthlaw14_TimerPlays
  have aw : ∀ (w : World), D w0 L w → Cl pg 9 #[] (fun v w => K v w) w := fun w d => awake_ok d k
  by_cases hmr : 0 ≤ most ∧ most ≤ 65536
  · refine fn10 (fun _ _ => rfl) (New_ok hmr d fun b w d => ?_)
    repeat (simp +decide only [SEM])
    refine ⟨fun _ => ⟨fun h => by omega, fun _ => ?_⟩, fun h => by omega⟩
    refine ho.len ?_
    repeat (simp +decide only [SEM])
    refine ⟨fun h => fn00 (fun _ _ => rfl) (aw w d.tail), fun h => ?_⟩
    repeat (first | (simp +decide only [SEM]) | (((repeat (refine bld_c rfl rfl (by simp) ?_; simp only [List.set_cons_zero, List.set_cons_succ])); refine bld_n ?_)) | (refine d_new _ d fun bn w d => ?_))
    generalize bn = c at d ⊢
    have d := D.swap (Tr.mk (S := []) (D.swap ⟨Ro_nil d.1, d.2⟩))
    refine ho.len ?_
    refine ⟨fun vs w' => ∃ (i : Nat) (now : Int) (S : List Te) (u : Value), vs = [u, .int .i64 i] ∧ i ≤ l.length ∧ (0 ≤ now ∧ now ≤ 1099511627776) ∧ S.Pairwise le ∧ D w0 (T b most now S :: Tr c most now S :: L) w', fun vs _ => match vs with | [_, .int _ i] => l.length - i.toNat | _ => 0, ⟨0, 0, [], _, rfl, by omega, by omega, List.Pairwise.nil, d⟩, ?_⟩
    clear d
    rintro _ w ⟨i, now, S, u, rfl, hi, hnow, hs, d⟩ _
    simp only [UN]
    repeat (simp +decide only [SEM])
    refine ⟨fun hlt => ?_, fun hge => fn00 (fun _ _ => rfl) (aw w d.tail.tail)⟩
    have hlt' : i < l.length := by omega
    have hfac := T.facts d
    have hSl : S.length ≤ 65536 := by omega
    refine ho.ia (by omega) hlt fun a ha => ?_
    simp only [Int.toNat_natCast] at ha
    refine old_ldN (oc l[i]) d (by simp [hm]) rfl (fun j x hx => ha j x hx) ?_
    have hI := hop l[i] (List.getElem_mem _)
    obtain ⟨kd, key, n⟩ := l[i]
    simp only [oc] at hI ⊢
    repeat (first | (refine d_new _ d fun bn w d => ?_) | (apply swm d; (focus ((repeat (first | exact .h _ | apply Rp.t)); done)); (focus rfl); (focus rfl); (focus exact ones rfl); intro w d; simp only [SPL] at d))
    generalize bn = bo at d ⊢
    intro vK hvK
    have fin : ∀ (w : World) (now : Int) (S : List Te), (0 ≤ now ∧ now ≤ 1099511627776) → S.Pairwise le → D w0 (T b most now S :: Tr c most now S :: cel bo 45 [.int .i64 kd, .int .i64 key, .int .i64 n] :: L) w → vK [u] w := by
      intro w now S hnow hs d
      have hfac := T.facts d
      have hSl : S.length ≤ 65536 := by omega
      refine hvK _ _ ?_
      intro _
      simp only [UN]
      obtain ⟨v, d⟩ := Tr.out d.swap
      obtain ⟨q, cq, rfl, -⟩ := Ro.shape d.swap
      repeat (first | (simp +decide only [SEM]) | (apply ldm d; (focus ((repeat (first | exact .h _ | refine .t _ _ ?_)); done)); (focus rfl)))
      refine ⟨fun vs w' => ∃ (j : Nat) (kv : Value), vs = [kv, .int .i64 j] ∧ j ≤ S.length ∧ D w0 (Rw 3 1 kv (S.take j).length ((S.take j).flatMap kyc) :: cel c 43 [.slice q S.length cq, .int .i64 most, .int .i64 now] :: Ro 53 2 (.slice q S.length cq) S.length (S.flatMap ec) :: T b most now S :: cel bo 45 [.int .i64 kd, .int .i64 key, .int .i64 n] :: L) w', fun vs _ => match vs with | [_, .int _ j] => S.length - j.toNat | _ => 0, ⟨0, _, rfl, by omega, ⟨Rw.nil _ _ d.1, d.2⟩⟩, ?_⟩
      clear d
      rintro _ w ⟨j, kv, rfl, hj, d⟩ _
      simp only [UN]
      repeat (simp +decide only [SEM])
      refine ⟨fun hlt => ?_, fun hge => ?_⟩
      · have hlt' : j < S.length := by omega
        refine ro_elN ec_len (D.sel [2] d) hlt' ?_
        repeat (first | (simp +decide only [SEM]) | (apply ldm d; (focus ((repeat (first | exact .h _ | refine .t _ _ ?_)); done)); (focus rfl)) | (refine d_new _ d fun bn w d => ?_) | refine bsl1 (by first | rfl | (simp only [cells_agg, cells_int, cells_bool, cells_ptr, cells_sl, cells_map, cells_fn, List.drop_succ_cons, List.drop_zero, List.take_succ_cons, List.take_zero, Nat.zero_add, Nat.reduceAdd, Int.toNat_natCast, Int.toNat_zero]; rfl)) rfl d (by decide) (by decide) fun bn w d => ?_ | (apply swm d; (focus ((repeat (first | exact .h _ | apply Rp.t)); done)); (focus rfl); (focus rfl); (focus exact ones rfl); intro w d; simp only [SPL] at d))
        have hlen : (S.take j).length = j := by rw [List.length_take]; omega
        refine d_app (m := 1) (D.sel [2] d) (src_of (gc1 (D.sel [2] d)) rfl (ones rfl) 1) rfl (by omega) (by omega) (by omega) (ones rfl) fun kv' w d => ?_
        repeat (simp +decide only [SEM])
        rw [w64 (by omega) (by omega)]
        refine ⟨⟨j + 1, kv', by simp, by omega, ?_⟩, by show S.length - ((j : Int) + 1).toNat < S.length - (j : Int).toNat; omega⟩
        rw [List.take_succ_eq_append_getElem hlt', List.length_append, List.flatMap_append, List.flatMap_singleton]
        exact (D.sel [1, 2, 0] d).tail.tail
      · have hj' : j = S.length := by omega
        subst hj'
        rw [List.take_length] at d
        repeat (apply ldm d; (focus ((repeat (first | exact .h _ | refine .t _ _ ?_)); done)); (focus rfl))
        refine fn20 (fun _ _ => rfl) (RFind_ok hSl (Tr.mk (D.sel [1, 2] d)) fun w d => ?_)
        obtain ⟨v, d⟩ := Tr.out d
        obtain ⟨q, cq, rfl, -⟩ := Ro.shape d.swap
        obtain ⟨qk, ck, rfl, -⟩ := Rw.shape (D.sel [2] d).1
        have nxt : ∀ (A1 A2 A3 : HP) (w : World), D w0 (T b most now S :: cel c 43 [.slice q S.length cq, .int .i64 most, .int .i64 now] :: Ro 53 2 (.slice q S.length cq) S.length (S.flatMap ec) :: A1 :: A2 :: A3 :: L) w →
            (∃ (i_1 : Nat) (now : Int) (S : List Te) (u_1 : Value), [u, .int .i64 (IntKind.i64.wrap ((i : Int) + 1))] = [u_1, .int .i64 i_1] ∧ i_1 ≤ l.length ∧ (0 ≤ now ∧ now ≤ 1099511627776) ∧ S.Pairwise le ∧ D w0 (T b most now S :: Tr c most now S :: L) w) ∧ l.length - (IntKind.i64.wrap ((i : Int) + 1)).toNat < l.length - i := by
          intro A1 A2 A3 w d
          rw [w64 (by omega) (by omega)]
          exact ⟨⟨i + 1, now, S, u, by simp, by omega, hnow, hs, (D.sel [2, 3, 4, 1, 0] (Tr.mk (D.sel [1, 2] d))).tail.tail.tail⟩, by omega⟩
        repeat (first | (simp +decide only [SEM]) | (apply ldm d; (focus ((repeat (first | exact .h _ | refine .t _ _ ?_)); done)); (focus rfl)))
        refine fn20 (fun _ _ => rfl) (Deadline_ok (D.sel [3] d) (fun hno w d => ?_) (fun y hy hk w d => ?_))
        all_goals (repeat (simp +decide only [SEM]); refine fn10 (fun _ _ => rfl) (Next_ok d (fun hn w d => ?_) (fun x hx hmin w d => ?_)))
        all_goals repeat (first | refine drw d fun w d => ?_ | (simp +decide only [SEM]) | refine qt d ?_)
        all_goals refine fn10 (fun _ _ => rfl) (Keys_ok d fun P kv2 w hpp hps d => ?_)
        all_goals obtain rfl : P = S := sorted_eq hpp hps hs
        all_goals skip
        all_goals refine fn20 (fun _ _ => rfl) (intsk_ok hSl (D.sel [0, 4] d) fun w d => ?_)
        all_goals (have d := D.sel [2, 3, 4, 5] d)
        all_goals repeat (first | (simp +decide only [SEM]) | refine qt d ?_ | refine qe_len ?_)
        all_goals refine fn10 (fun _ _ => rfl) (Count_ok d fun w d => ?_)
        all_goals repeat (first | (simp +decide only [SEM]) | refine qt d ?_ | refine qe_nil ?_ | (apply qlm; (focus ((repeat (first | exact .h _ | refine .t _ _ ?_)); done)); (focus rfl)) | refine ch d ?_)
        all_goals refine fn10 (fun _ _ => rfl) (Now_ok d fun w d => ?_)
        all_goals repeat (first | (simp +decide only [SEM]) | refine qt d ?_ | refine qe_op (fun _ _ => BinI_geq) ?_ | refine ch d ?_)
        · have ht : ¬ 0 ≤ tix key P := fun h => by
            obtain ⟨q, hq, _, e⟩ := tix_yes h
            exact hno _ (List.getElem_mem hq) e
          subst hn
          have htd : decide (0 ≤ tix key []) = false := decide_eq_false ht
          skip
          rw [htd]
          repeat (first | (simp +decide only [SEM]) | refine qt d ?_ | refine qe_len ?_ | refine qe_op (fun _ _ => BinI_gtr) ?_)
          exact nxt _ _ _ _ d
        · have ht : ¬ 0 ≤ tix key P := fun h => by
            obtain ⟨q, hq, _, e⟩ := tix_yes h
            exact hno _ (List.getElem_mem hq) e
          have htd : decide (0 ≤ tix key P) = false := decide_eq_false ht
          have hpos : 0 < P.length := List.length_pos_of_mem hx
          have hpd : decide ((0 : Int) < P.length) = true := decide_eq_true (by omega)
          skip
          rw [htd]
          repeat (first | (simp +decide only [SEM]) | refine qt d ?_ | refine qe_len ?_ | refine qe_op (fun _ _ => BinI_gtr) ?_)
          rw [hpd]
          repeat (first | (simp +decide only [SEM]) | (apply ldm d; (focus ((repeat (first | exact .h _ | refine .t _ _ ?_)); done)); (focus rfl)))
          have hx0 : x = P[0] := le_antisymm (hmin _ (List.getElem_mem _)) (by
            obtain ⟨j, hj, rfl⟩ := List.getElem_of_mem hx
            rcases Nat.eq_zero_or_pos j with h | h
            · subst h; exact .inr ⟨rfl, Int.le_refl _⟩
            · exact List.pairwise_iff_getElem.1 hps 0 j hpos hj h)
          subst hx0
          refine ro_fld (i := 0) (j := 1) (v := .int .i64 P[0].key) ec_len (D.sel [2] d) hpos rfl ?_
          repeat (first | (simp +decide only [SEM]) | (apply ldm d; (focus ((repeat (first | exact .h _ | refine .t _ _ ?_)); done)); (focus rfl)))
          refine ro_fld (i := 0) (j := 0) (v := .int .i64 P[0].dl) ec_len (D.sel [2] d) hpos rfl ?_
          repeat (simp +decide only [SEM])
          exact nxt _ _ _ _ d
        · subst hn
          cases hy
        · have ht : 0 ≤ tix key P := Classical.byContradiction fun h => tix_no (by omega) y hy hk
          have htd : decide (0 ≤ tix key P) = true := decide_eq_true ht
          have hpos : 0 < P.length := List.length_pos_of_mem hx
          have hpd : decide ((0 : Int) < P.length) = true := decide_eq_true (by omega)
          obtain ⟨q0, hq0, hqe, hqk⟩ := tix_yes ht
          obtain ⟨b1, o1, cap1, cells1, e1, -, -⟩ := ro_at ec_len (D.sel [2] d) hq0
          cases e1
          skip
          rw [htd]
          repeat (first | (simp +decide only [SEM]) | refine qt d ?_ | refine qe_nil ?_ | (apply qlm; (focus ((repeat (first | exact .h _ | refine .t _ _ ?_)); done)); (focus rfl)))
          rw [hqe]
          refine qiar hq0 ?_
          repeat (refine qe_nil ?_)
          have hyq : P[q0] = y := same_key hfac.1 (List.getElem_mem _) hy (by rw [hqk, hk])
          refine qro (j := 0) (v := .int .i64 P[q0].dl) (.t _ _ (.t _ _ (.h _))) ec_len hq0 rfl ?_
          rw [hyq]
          repeat (first | (simp +decide only [SEM]) | refine qt d ?_ | refine qe_len ?_ | refine qe_op (fun _ _ => BinI_gtr) ?_)
          rw [hpd]
          repeat (first | (simp +decide only [SEM]) | (apply ldm d; (focus ((repeat (first | exact .h _ | refine .t _ _ ?_)); done)); (focus rfl)))
          have hx0 : x = P[0] := le_antisymm (hmin _ (List.getElem_mem _)) (by
            obtain ⟨j, hj, rfl⟩ := List.getElem_of_mem hx
            rcases Nat.eq_zero_or_pos j with h | h
            · subst h; exact .inr ⟨rfl, Int.le_refl _⟩
            · exact List.pairwise_iff_getElem.1 hps 0 j hpos hj h)
          subst hx0
          refine ro_fld (i := 0) (j := 1) (v := .int .i64 P[0].key) ec_len (D.sel [2] d) hpos rfl ?_
          repeat (first | (simp +decide only [SEM]) | (apply ldm d; (focus ((repeat (first | exact .h _ | refine .t _ _ ?_)); done)); (focus rfl)))
          refine ro_fld (i := 0) (j := 0) (v := .int .i64 P[0].dl) ec_len (D.sel [2] d) hpos rfl ?_
          repeat (simp +decide only [SEM])
          exact nxt _ _ _ _ d
    have hdt := drop_tix (key := key) hfac.1
    have hrs : (rem key S).Pairwise le := hs.filter _
    have tno : (∀ x ∈ S, x.key ≠ key) → ¬ 0 ≤ tix key S := fun hno h => by
      obtain ⟨q, hq, _, e⟩ := tix_yes h
      exact hno _ (List.getElem_mem hq) e
    have tyes : (∃ x ∈ S, x.key = key) → 0 ≤ tix key S := fun ⟨x, hx, he⟩ => Classical.byContradiction fun h => tix_no (by omega) x hx he
    repeat (first | (simp +decide only [SEM]) | (apply ldm d; (focus ((repeat (first | exact .h _ | refine .t _ _ ?_)); done)); (focus rfl)))
    refine ⟨fun h1 => ?_, fun h1 => ?_⟩
    · repeat (first | (simp +decide only [SEM]) | (apply ldm d; (focus ((repeat (first | exact .h _ | refine .t _ _ ?_)); done)); (focus rfl)))
      refine fn30 (fun _ _ => rfl) (Set_ok (D.sel [1, 2] d) (fun a1 w d => ?_) (fun a1 a2 w d => ?_) (fun a1 a2 a3 a4 w d => ?_) (fun a1 a2 a3 w d => ?_))
      all_goals repeat (first | (simp +decide only [SEM]) | (apply ldm d; (focus ((repeat (first | exact .h _ | refine .t _ _ ?_)); done)); (focus rfl)))
      all_goals refine fn30 (fun _ _ => rfl) (RSet_ok hSl (D.sel [1] d) (fun b1 w d => ?_) (fun b1 b2 w d => ?_) (fun b1 b2 b3 b4 w d => ?_) (fun b1 b2 b3 w d => ?_))
      all_goals first | (exfalso; omega) | skip
      · repeat (simp +decide only [SEM])
        rw [hdt] at d
        exact fin _ _ _ hnow hrs (D.sel [1, 0] d)
      · repeat (simp +decide only [SEM])
        exact fin _ _ _ hnow hs (D.sel [1, 0] d)
      · repeat (simp +decide only [SEM])
        exact fin _ _ _ hnow hs (D.sel [1, 0] d)
      · have := tno a3
        exfalso; omega
      · have : 0 ≤ tix key S ∨ S.length < most := a3.imp tyes id
        exfalso; omega
      · repeat (simp +decide only [SEM])
        rw [hdt] at d
        exact fin _ _ _ hnow (ins_sorted hrs) (T.perm (D.sel [1, 0] d) ins_perm.symm)
    · skip
      refine ⟨fun h2 => ?_, fun h2 => ?_⟩
      · repeat (apply ldm d; (focus ((repeat (first | exact .h _ | refine .t _ _ ?_)); done)); (focus rfl))
        refine fn20 (fun _ _ => rfl) (Cancel_ok (D.sel [1, 2] d) (fun a1 w d => ?_) (fun a1 w d => ?_))
        all_goals repeat (first | (simp +decide only [SEM]) | (apply ldm d; (focus ((repeat (first | exact .h _ | refine .t _ _ ?_)); done)); (focus rfl)))
        all_goals refine fn20 (fun _ _ => rfl) (RFind_ok hSl (D.sel [1] d) fun w d => ?_)
        · have h := tno a1
          have htd : decide (0 ≤ tix key S) = false := decide_eq_false h
          have hrem : rem key S = S := rem_none a1
          repeat (simp +decide only [SEM])
          rw [htd]
          repeat (simp +decide only [SEM])
          refine ⟨fun _ => ?_, fun h => by omega⟩
          skip
          refine fn20 (fun _ _ => rfl) (RDrop_ok hSl d fun w d => ?_)
          rw [hdt, hrem] at d
          exact fin _ _ _ hnow hs (D.sel [1, 0] d)
        · have h := tyes a1
          have htd : decide (0 ≤ tix key S) = true := decide_eq_true h
          repeat (simp +decide only [SEM])
          rw [htd]
          repeat (simp +decide only [SEM])
          refine ⟨fun h => by omega, fun _ => ?_⟩
          refine fn20 (fun _ _ => rfl) (RDrop_ok hSl d fun w d => ?_)
          rw [hdt] at d
          exact fin _ _ _ hnow hrs (D.sel [1, 0] d)
      · skip
        refine ⟨fun h3 => ?_, fun h3 => ?_⟩
        · repeat (apply ldm d; (focus ((repeat (first | exact .h _ | refine .t _ _ ?_)); done)); (focus rfl))
          refine fn20 (fun _ _ => rfl) (Advance_ok hnow (D.sel [1, 2] d) (fun a1 w d => ?_) fun a1 a2 P M' lv2 w hp hs' hd hl' d => ?_)
          all_goals repeat (first | (simp +decide only [SEM]) | (apply ldm d; (focus ((repeat (first | exact .h _ | refine .t _ _ ?_)); done)); (focus rfl)))
          · refine fn20 (fun _ _ => rfl) (RAdv_ok hSl hnow (D.sel [1] d) (fun b1 w d => ?_) fun b1 b2 P R sv w hPR hd hl' d => ?_)
            · repeat (simp +decide only [SEM])
              have d0 : D w0 (Rw 3 1 (.slice none 0 0) ([] : List Int).length (([] : List Int).flatMap nc) :: _) w := ⟨Rw.nil _ _ d.1, d.2⟩
              have d0 : D w0 (Rw 3 1 (.slice none 0 0) ([] : List Int).length (([] : List Int).flatMap nc) :: Rw 3 1 (.slice none 0 0) ([] : List Int).length (([] : List Int).flatMap nc) :: _) w := ⟨Rw.nil _ _ d0.1, d0.2⟩
              refine fn20 (fun _ _ => rfl) (ints_ok (A := []) (by simp) d0 fun w d => ?_)
              repeat (simp +decide only [SEM])
              exact fin _ _ _ hnow hs (D.sel [0, 1, 3, 2, 4] d).tail.tail
            · exfalso; omega
          · refine fn20 (fun _ _ => rfl) (RAdv_ok hSl hnow (D.sel [2] d) (fun b1 w d => ?_) fun b1 b2 P2 R sv w hPR hd2 hl2 d => ?_)
            · exfalso; omega
            · have hs2 := hs
              rw [← hPR, List.pairwise_append] at hs2
              have hR2 := head_gt hs2.2.1 hl2
              obtain ⟨rfl, hMR⟩ := told_eq hp (by rw [hPR]) hs' hs2.1 hd hd2 hl' hR2
              have hPl : P.length ≤ 65536 := by
                have := hp.length_eq
                rw [List.length_append] at this
                omega
              repeat (simp +decide only [SEM])
              refine fn20 (fun _ _ => rfl) (intsk_ok hPl (D.sel [2, 0] d) fun w d => ?_)
              repeat (simp +decide only [SEM])
              exact fin _ _ _ (by omega) hs2.2.1 (T.perm (D.sel [0, 1, 3, 2, 4] d).tail.tail hMR)
        · skip
          exact fin _ _ _ hnow hs (D.sel [1, 2] d)
  · refine fn10 (fun _ _ => rfl) (New_no hmr ?_)
    repeat (simp +decide only [SEM])
    exact ⟨fun h1 => ⟨fun h2 => fn00 (fun _ _ => rfl) (aw w d), fun h2 => absurd ⟨by omega, by omega⟩ hmr⟩, fun h1 => fn00 (fun _ _ => rfl) (aw w d)⟩
theorem plays_law {n : Nat} (h : OldSl pg w0 45 3 lv n) (hmI : I64 most) (hm : Old w0 ∈ L) (d : D w0 L w) (k : ∀ w', D w0 L w' → K (.bool true) w') :
    Cl pg 7 #[.int .i64 most, lv] K w := by
  obtain ⟨l, hl, hop, ho, hn⟩ := ops_of h
  exact plays_ok hmI (by omega) hop ho hm d k
end
end Go.Proofs.Ythpkkbmiockloaa
