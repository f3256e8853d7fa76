/- Timers: the law of parts. -/
import Derived.Test.YthpkkbmiockloaaTl
set_option maxRecDepth 100000
set_option maxHeartbeats 4000000
namespace Go.Proofs.Ythpkkbmiockloaa
open Go Go.Jac
section
variable {w0 w : World} {L : List HP} {K : Value → WP} {b n : Nat} {most now : Int} {H M : List Te} {g : G} {sv lv av bv : Value}
theorem ints_ok {A : List Int} (hA : A.length ≤ 4294967296) (d : D w0 (Rw 3 1 av A.length (A.flatMap nc) :: Rw 3 1 bv A.length (A.flatMap nc) :: L) w) (k : ∀ w', D w0 (Rw 3 1 av A.length (A.flatMap nc) :: Rw 3 1 bv A.length (A.flatMap nc) :: L) w' → K (.bool true) w') :
    Cl pg 16 #[av, bv] K w := by
  refine V.jacinthlaw14_ints_ok ?_
  unfold V.jacinthlaw14_ints
  obtain ⟨q1, c1, rfl, -⟩ := Rw.shape d.1
  obtain ⟨q2, c2, rfl, -⟩ := Rw.shape d.swap.1
  repeat (simp +decide only [SEM])
  refine ⟨fun vs w => ∃ (i : Nat) (u : Value), vs = [u, .int .i64 i] ∧ i ≤ A.length ∧ D w0 (Rw 3 1 (.slice q1 A.length c1) A.length (A.flatMap nc) :: Rw 3 1 (.slice q2 A.length c2) A.length (A.flatMap nc) :: L) w, fun vs _ => match vs with | [_, .int _ i] => A.length - i.toNat | _ => 0, ⟨0, _, rfl, by omega, d⟩, ?_⟩
  clear d
  rintro _ w ⟨i, u, rfl, hi, d⟩ _
  simp only [UN]
  repeat (simp +decide only [SEM])
  refine ⟨fun hlt => ?_, fun hge => k _ d⟩
  have hlt' : i < A.length := by omega
  obtain ⟨b1, cap, cs, e, -, -⟩ := rec_at (i := (i : Int)) nc_len d (by omega) (by omega)
  cases e
  obtain ⟨b2, cap2, cs2, e, -, -⟩ := rec_at (i := (i : Int)) nc_len d.swap (by omega) (by omega)
  cases e
  repeat (first | refine drw d fun w d => ?_ | (simp +decide only [SEM]) | refine qt d ?_ | refine qia (by first | omega | (simp; omega)) ?_ | (focus (apply ql0; (focus ((repeat (first | exact .h _ | refine .t _ _ ?_)); done)); (focus exact fun _ => rfl); (focus rfl); rotate_left; (focus (first | omega | (simp; done) | (simp; omega))))))
  rw [w64 (by omega) (by omega)]
  exact ⟨⟨i + 1, u, by simp, by omega, d⟩, by omega⟩
theorem kyc_nc (P : List Te) : P.flatMap kyc = (P.map (·.key)).flatMap nc := by rw [List.flatMap_map]; rfl
/-- A row behind a row, it may be empty. -/
theorem d_appm {elem es bytes m : Nat} {zero : Array Value} {x : Value} {cs news : List Value} (d : D w0 (Rw elem es sv n cs :: L) w) (hx : SrcV es x m news w) (hz : zero.size = es) (hb : (n + m) * bytes ≤ 140737488355328) (h63 : n + m < 4611686018427387904)
    (hx2 : ∀ v ∈ news, v.oneCell' = true)
    (k : ∀ sv' w', D w0 (Rw elem es sv' (n + m) (cs ++ news) :: L) w' → K sv' w') : AppC elem es bytes zero sv x K w := by
  rcases Nat.eq_zero_or_pos m with h0 | h0
  · subst h0
    have hc0 : news = [] := by
      have hl : news.length = 0 * es := by
        rcases hx with ⟨a, c', h, hl, _⟩ | ⟨c', h, hn, hc⟩
        · exact hl
        · simp [hc]
      exact List.length_eq_zero_iff.1 (by simpa using hl)
    subst hc0
    obtain ⟨q, c, rfl, hle⟩ := Rw.shape d.1
    exact ⟨_, _, _, 0, [], rfl, hx, .inl ⟨rfl, hle, k _ _ (by simpa using d)⟩⟩
  · exact d_app d hx hz h0 hb h63 hx2 k
theorem kycs_one {P : List Te} : ∀ u ∈ P.flatMap kyc, u.oneCell' = true := by
  intro u hu
  obtain ⟨x, _, hx⟩ := List.mem_flatMap.1 hu
  simp only [kyc, List.mem_singleton] at hx
  rw [hx]; rfl
theorem le_lt {x y : Te} (h : x.dl < y.dl) : le x y := by unfold le; omega
/-- What is told up to a time is settled by what was set. -/
theorem told_eq {c : Int} {P Q R R' M : List Te} (h1 : (P ++ R).Perm M) (h2 : (Q ++ R').Perm M) (hp : P.Pairwise le) (hq : Q.Pairwise le) (p1 : ∀ x ∈ P, x.dl ≤ c) (q1 : ∀ x ∈ Q, x.dl ≤ c) (r1 : ∀ x ∈ R, c < x.dl) (r2 : ∀ x ∈ R', c < x.dl) : P = Q ∧ R.Perm R' := by
  have f : ∀ (P R : List Te), (∀ x ∈ P, x.dl ≤ c) → (∀ x ∈ R, c < x.dl) → (P ++ R).filter (fun x => decide (x.dl ≤ c)) = P ∧ (P ++ R).filter (fun x => !decide (x.dl ≤ c)) = R := by
    intro P R hP hR
    rw [List.filter_append, List.filter_append]
    constructor
    · rw [List.filter_eq_self.2 fun x hx => by simpa using hP x hx, List.filter_eq_nil_iff.2 fun x hx => by have := hR x hx; simp; omega, List.append_nil]
    · rw [List.filter_eq_nil_iff.2 fun x hx => by have := hP x hx; simp; omega, List.filter_eq_self.2 fun x hx => by have := hR x hx; simp; omega, List.nil_append]
  have h := h1.trans h2.symm
  have hA := h.filter (fun x => decide (x.dl ≤ c))
  have hB := h.filter (fun x => !decide (x.dl ≤ c))
  rw [(f P R p1 r1).1, (f Q R' q1 r2).1] at hA
  rw [(f P R p1 r1).2, (f Q R' q1 r2).2] at hB
  exact ⟨sorted_eq hA hp hq, hB⟩
theorem parts_ok {l st : List Int} (ho : OldL w0 1 nc lv l) (hs : OldL w0 1 nc sv st) (hm : Old w0 ∈ L) (d : D w0 L w) (k : ∀ w', D w0 L w' → K (.bool true) w') :
    Cl pg 6 #[lv, sv] K w := by
  refine V.jacinthlaw14_TimerParts_ok ?_
  unfold V.jacinthlaw14_TimerParts
  have aw : ∀ (w : World), D w0 L w → Cl pg 9 #[] (fun v w => K v w) w := fun w d => awake_ok d k
  refine fn10 (fun _ _ => rfl) (New_ok (by omega) d fun ba w d => ?_)
  skip
  refine fn10 (fun _ _ => rfl) (New_ok (by omega) d fun bb w d => ?_)
  repeat (simp +decide only [SEM])
  refine ho.len ?_
  repeat (simp +decide only [SEM])
  refine ⟨fun h => ?_, fun _ => fn00 (fun _ _ => rfl) (aw w d.tail.tail)⟩
  refine hs.len ?_
  repeat (simp +decide only [SEM])
  refine ⟨fun _ => fn00 (fun _ _ => rfl) (aw w d.tail.tail), fun h' => ?_⟩
  refine ho.len ?_
  refine ⟨fun vs w' => ∃ (i : Nat) (M : List Te), vs = [.int .i64 i] ∧ i ≤ l.length ∧ M.length ≤ i ∧ (∀ x ∈ M, 0 < x.dl) ∧ D w0 (T ba 100 0 M :: T bb 100 0 M :: L) w', fun vs _ => match vs with | [.int _ i] => l.length - i.toNat | _ => 0, ⟨0, [], rfl, by omega, by simp, by simp, d.swap⟩, ?_⟩
  clear d
  rintro _ w ⟨i, M, rfl, hi, hMl, hM0, d⟩ _
  simp only [UN]
  repeat (simp +decide only [SEM])
  refine ⟨fun hlt => ?_, fun hge => ?_⟩
  · have hlt' : i < l.length := by omega
    refine ho.ia (by omega) hlt fun a ha => ?_
    simp only [Int.toNat_natCast] at ha
    refine old_ld1 d (by simp [hm]) (by have := ha 0 _ rfl; rwa [Addr.add_zero] at this) ?_
    repeat (simp +decide only [SEM])
    have hneg : IntKind.i64.wrap (0 - (i : Int)) = -(i : Int) := by rw [w64 (by omega) (by omega)]; omega
    rw [hneg]
    have hrem : (rem (-(i : Int)) M).length ≤ M.length := List.length_filter_le _ _
    have hremd : ∀ x ∈ rem (-(i : Int)) M, 0 < x.dl := fun x hx => hM0 x (List.mem_filter.1 hx).1
    refine fn30 (fun _ _ => rfl) (Set_ok d (fun h1 w d => ?_) (fun h1 h2 w d => ?_) (fun h1 h2 h3 h4 w d => by omega) (fun h1 h2 h3 w d => ?_))
    all_goals (repeat (simp +decide only [SEM]); rw [hneg]; refine fn30 (fun _ _ => rfl) (Set_ok d.swap (fun h1' w d => ?_) (fun h1' h2' w d => ?_) (fun h1' h2' h3' h4' w d => by omega) (fun h1' h2' h3' w d => ?_)))
    all_goals first | (exfalso; omega) | skip
    all_goals repeat (simp +decide only [SEM])
    all_goals rw [w64 (by omega) (by omega)]
    · exact ⟨⟨i + 1, _, by simp, by omega, by omega, hremd, d.swap⟩, by omega⟩
    · exact ⟨⟨i + 1, _, by simp, by omega, by omega, hM0, d.swap⟩, by omega⟩
    · refine ⟨⟨i + 1, _, by simp, by omega, by simp; omega, fun x hx => ?_, d.swap⟩, by omega⟩
      rcases List.mem_cons.1 hx with rfl | hx
      · exact h1
      · exact hremd x hx
  · refine hs.len ?_
    refine ⟨fun vs w' => ∃ (j : Nat) (now : Int) (Q Ma : List Te) (pv u : Value), vs = [.int .i64 now, u, pv, .int .i64 j] ∧ j ≤ st.length ∧ (0 ≤ now ∧ now ≤ (j : Int) * 1073741824) ∧ Q.length ≤ 60 ∧ (Q ++ Ma).Perm M ∧ Q.Pairwise le ∧ (∀ x ∈ Q, x.dl ≤ now) ∧ (∀ x ∈ Ma, now < x.dl) ∧ D w0 (Rw 3 1 pv Q.length (Q.flatMap kyc) :: T ba 100 now Ma :: T bb 100 0 M :: L) w', fun vs _ => match vs with | [_, _, _, .int _ j] => st.length - j.toNat | _ => 0, ⟨0, 0, [], M, _, _, rfl, by omega, by omega, by simp, List.Perm.refl _, .nil, by simp, hM0, ⟨Rw.nil _ _ d.1, d.2⟩⟩, ?_⟩
    clear d
    rintro _ w ⟨j, now, Q, Ma, pv, u, rfl, hj, hnow, hQ, hperm, hsort, hq1, hr1, d⟩ _
    simp only [UN]
    have hQM : Q.length + Ma.length = M.length := by have := hperm.length_eq; rwa [List.length_append] at this
    repeat (simp +decide only [SEM])
    refine ⟨fun hlt => ?_, fun hge => ?_⟩
    · have hlt' : j < st.length := by omega
      refine hs.ia (by omega) hlt fun a ha => ?_
      simp only [Int.toNat_natCast] at ha
      refine old_ld1 d (by simp [hm]) (by have := ha 0 _ rfl; rwa [Addr.add_zero] at this) ?_
      repeat (simp +decide only [SEM])
      refine ⟨fun hn0 => ⟨fun _ => fn00 (fun _ _ => rfl) (aw w d.tail.tail.tail), fun hn1 => ?_⟩, fun _ => fn00 (fun _ _ => rfl) (aw w d.tail.tail.tail)⟩
      rw [w64 (by omega) (by omega)]
      refine fn20 (fun _ _ => rfl) (Advance_ok (by omega) d.swap (fun h w d => by omega) fun hb1 hb2 P M' lv2 w hp hs' hd hl' d => ?_)
      have hPM : P.length + M'.length = Ma.length := by have := hp.length_eq; rwa [List.length_append] at this
      have hPa : ∀ x ∈ P, x ∈ Ma := fun x hx => hp.mem_iff.1 (List.mem_append_left _ hx)
      repeat (simp +decide only [SEM])
      refine d_appm (D.sel [2] d) (src_rw d kycs_one) rfl (by omega) (by omega) kycs_one fun pv' w d => ?_
      repeat (simp +decide only [SEM])
      rw [w64 (by omega) (by omega)]
      refine ⟨⟨j + 1, now + st[j], Q ++ P, M', pv', u, by simp, by omega, by omega, by rw [List.length_append]; omega, ?_, ?_, ?_, hl', ?_⟩, by omega⟩
      · rw [List.append_assoc]
        exact (hp.append_left Q).trans hperm
      · rw [List.pairwise_append]
        refine ⟨hsort, hs', fun x hx y hy => le_lt ?_⟩
        have := hq1 x hx
        have := hr1 y (hPa y hy)
        omega
      · intro x hx
        rcases List.mem_append.1 hx with hx | hx
        · have := hq1 x hx
          omega
        · exact hd x hx
      · rw [List.length_append, List.flatMap_append]
        exact d.tail2
    · have hj' : j ≤ 40 := by omega
      refine fn20 (fun _ _ => rfl) (Advance_ok (by omega) (D.sel [2] d) (fun h w d => by omega) fun hb1 hb2 P M' lv2 w hp hs' hd hl' d => ?_)
      rw [Int.zero_add] at d hd hl'
      obtain ⟨rfl, hMa⟩ := told_eq hp hperm hs' hsort hd hq1 hl' hr1
      repeat (simp +decide only [SEM])
      rw [kyc_nc, ← List.length_map (f := fun x : Te => x.key)] at d
      refine fn20 (fun _ _ => rfl) (ints_ok (A := P.map (·.key)) (by rw [List.length_map]; omega) (D.sel [0, 2] d) fun w d => ?_)
      repeat (simp +decide only [SEM])
      refine fn10 (fun _ _ => rfl) (Keys_ok (D.sel [3] d) fun Pa ka w hpa hsa d => ?_)
      skip
      refine fn10 (fun _ _ => rfl) (Keys_ok (D.sel [4] d) fun Pb kb w hpb hsb d => ?_)
      skip
      have hab : Pa = Pb := sorted_eq (hpa.trans (hMa.symm.trans hpb.symm)) hsa hsb
      subst hab
      have hPal : Pa.length ≤ 60 := by rw [hpa.length_eq]; omega
      rw [kyc_nc Pa, ← List.length_map (f := fun x : Te => x.key)] at d
      refine fn20 (fun _ _ => rfl) (ints_ok (A := Pa.map (·.key)) (by rw [List.length_map]; omega) (D.sel [2, 0] d) fun w d => ?_)
      repeat (simp +decide only [SEM])
      refine fn10 (fun _ _ => rfl) (Now_ok (D.sel [3] d) fun w d => ?_)
      repeat (simp +decide only [SEM])
      exact fn00 (fun _ _ => rfl) (aw w d.tail.tail.tail.tail.tail.tail)
theorem parts_law {m n : Nat} (h : OldSl pg w0 3 1 lv m) (h2 : OldSl pg w0 3 1 sv n) (hm : Old w0 ∈ L) (d : D w0 L w) (k : ∀ w', D w0 L w' → K (.bool true) w') :
    Cl pg 6 #[lv, sv] K w := by
  obtain ⟨l, -, -, ho, -⟩ := ints_of h
  obtain ⟨st, -, -, ho2, -⟩ := ints_of h2
  exact parts_ok ho ho2 hm d k
end
end Go.Proofs.Ythpkkbmiockloaa
