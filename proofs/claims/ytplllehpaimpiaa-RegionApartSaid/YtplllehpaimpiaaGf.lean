/- Regions: Cut, Place, List; the fixed answer. -/
import Derived.Test.YtplllehpaimpiaaGe
set_option maxRecDepth 100000
set_option maxHeartbeats 8000000
namespace Go.Proofs.Ytplllehpaimpiaa
open Go Go.Jac
def vals (x : Pc) : Int × Int × Int := (x.v, x.p, x.f - x.a)
theorem outP_in {at_ m : Int} {x : Pc} (hx : 0 ≤ x.a ∧ 0 < x.n) (hm : 0 ≤ at_ ∧ 0 < m) : ∀ y ∈ outP at_ m x, x.a ≤ y.a ∧ 0 < y.n ∧ y.a + y.n ≤ x.a + x.n ∧ vals y = vals x ∧ (y.a + y.n ≤ at_ ∨ at_ + m ≤ y.a) := by
  intro y hy
  unfold outP at hy
  split at hy
  · rename_i h
    unfold ovB at h
    have h := of_decide_eq_true h
    rcases List.mem_append.1 hy with hy | hy
    · split at hy
      · rw [List.mem_singleton.1 hy]
        simp only [part, vals, Prod.mk.injEq, true_and]
        omega
      · cases hy
    · split at hy
      · rw [List.mem_singleton.1 hy]
        simp only [part, vals, Prod.mk.injEq, true_and]
        omega
      · cases hy
  · rename_i h
    rw [List.mem_singleton.1 hy]
    unfold ovB at h
    simp only [decide_eq_true_eq] at h
    refine ⟨Int.le_refl _, hx.2, Int.le_refl _, rfl, by omega⟩
theorem inP_in {at_ m : Int} {x : Pc} (hx : 0 ≤ x.a ∧ 0 < x.n) (hm : 0 ≤ at_ ∧ 0 < m) : ∀ y ∈ inP at_ m x, x.a ≤ y.a ∧ 0 < y.n ∧ y.a + y.n ≤ x.a + x.n ∧ vals y = vals x ∧ at_ ≤ y.a ∧ y.a + y.n ≤ at_ + m := by
  intro y hy
  unfold inP at hy
  split at hy
  · rename_i h
    unfold ovB at h
    have h := of_decide_eq_true h
    rw [List.mem_singleton.1 hy]
    simp only [part, vals, Prod.mk.injEq, true_and]
    omega
  · cases hy
theorem outP_up {at_ m : Int} {x : Pc} (hm : 0 ≤ at_ ∧ 0 < m) (hx : 0 ≤ x.a ∧ 0 < x.n) : (outP at_ m x).Pairwise fun y z => y.a + y.n ≤ z.a := by
  unfold outP
  split
  · rename_i h
    unfold ovB at h
    have h := of_decide_eq_true h
    split <;> split
    · simp only [List.singleton_append, List.pairwise_cons, List.mem_singleton, forall_eq, List.not_mem_nil, false_implies, implies_true, List.Pairwise.nil, and_true]
      simp only [part]; omega
    · simp
    · simp
    · simp
  · exact List.pairwise_singleton _ _
theorem inP_up {at_ m : Int} {x : Pc} : (inP at_ m x).Pairwise fun y z => y.a + y.n ≤ z.a := by
  unfold inP
  split
  · exact List.pairwise_singleton _ _
  · exact List.Pairwise.nil
theorem flat_up {size most : Int} {S : List Pc} (h : Rok size most S) {g : Pc → List Pc} (h1 : ∀ x ∈ S, (g x).Pairwise fun y z => y.a + y.n ≤ z.a) (h2 : ∀ x ∈ S, ∀ y ∈ g x, x.a ≤ y.a ∧ y.a + y.n ≤ x.a + x.n) : (S.flatMap g).Pairwise fun y z => y.a + y.n ≤ z.a := by
  rw [List.pairwise_flatMap]
  refine ⟨h1, ?_⟩
  refine List.Pairwise.imp_of_mem ?_ h.up
  intro x x' hx hx' hxx y hy z hz
  have := h2 x hx y hy
  have := h2 x' hx' z hz
  omega
theorem pok_sub {size : Int} {x y : Pc} (hx : Pok size x) (h1 : x.a ≤ y.a) (h2 : 0 < y.n) (h3 : y.a + y.n ≤ x.a + x.n) (h4 : vals y = vals x) (ha : y.a % 64 = 0) (hn : y.n % 64 = 0) : Pok size y := by
  have e1 : y.p = x.p := congrArg (fun c => c.2.1) h4
  have e2 : y.f - y.a = x.f - x.a := congrArg (fun c => c.2.2) h4
  have := hx.a0; have := hx.en; have := hx.f0; have := hx.fm; have := hx.fa; have := hx.am; have := hx.pr
  exact ⟨by omega, h2, ha, hn, by omega, by omega, by omega, by omega, by omega⟩
theorem part_mod {x : Pc} {fr to : Int} (h1 : x.a % 64 = 0) (h2 : x.n % 64 = 0) (h3 : fr % 64 = 0) (h4 : to % 64 = 0) : (part x fr to).a % 64 = 0 ∧ (part x fr to).n % 64 = 0 := by
  simp only [part]
  rcases Int.le_total fr x.a with h | h <;> rcases Int.le_total to (x.a + x.n) with h' | h'
  · rw [Int.max_eq_right h, Int.min_eq_left h']; omega
  · rw [Int.max_eq_right h, Int.min_eq_right h']; omega
  · rw [Int.max_eq_left h, Int.min_eq_left h']; omega
  · rw [Int.max_eq_left h, Int.min_eq_right h']; omega
theorem out_pok {size at_ m : Int} {x : Pc} (hx : Pok size x) (hm : at_ % 64 = 0 ∧ m % 64 = 0 ∧ 0 ≤ at_ ∧ 0 < m) : ∀ y ∈ outP at_ m x, Pok size y := by
  intro y hy
  obtain ⟨h1, h2, h3, h4, _⟩ := outP_in ⟨hx.a0, hx.n0⟩ ⟨hm.2.2.1, hm.2.2.2⟩ y hy
  have := hx.am; have := hx.nm
  have key : y.a % 64 = 0 ∧ y.n % 64 = 0 := by
    unfold outP at hy
    split at hy
    · rcases List.mem_append.1 hy with hy | hy
      · split at hy
        · rw [List.mem_singleton.1 hy]; exact part_mod hx.am hx.nm hx.am hm.1
        · cases hy
      · split at hy
        · rw [List.mem_singleton.1 hy]; exact part_mod hx.am hx.nm (by omega) (by omega)
        · cases hy
    · rw [List.mem_singleton.1 hy]; exact ⟨hx.am, hx.nm⟩
  exact pok_sub hx h1 h2 h3 h4 key.1 key.2
theorem in_pok {size at_ m : Int} {x : Pc} (hx : Pok size x) (hm : at_ % 64 = 0 ∧ m % 64 = 0 ∧ 0 ≤ at_ ∧ 0 < m) : ∀ y ∈ inP at_ m x, Pok size y := by
  intro y hy
  obtain ⟨h1, h2, h3, h4, _⟩ := inP_in ⟨hx.a0, hx.n0⟩ ⟨hm.2.2.1, hm.2.2.2⟩ y hy
  have key : y.a % 64 = 0 ∧ y.n % 64 = 0 := by
    unfold inP at hy
    split at hy
    · rw [List.mem_singleton.1 hy]; exact part_mod hx.am hx.nm hm.1 (by omega)
    · cases hy
  exact pok_sub hx h1 h2 h3 h4 key.1 key.2
theorem cut_rok {size most at_ m : Int} {S : List Pc} (h : Rok size most S) (hm : at_ % 64 = 0 ∧ m % 64 = 0 ∧ 0 ≤ at_ ∧ 0 < m) (hl : (S.flatMap (outP at_ m)).length ≤ most) : Rok size most (S.flatMap (outP at_ m)) := by
  refine ⟨h.sz, h.mo, fun y hy => ?_, ?_, hl⟩
  · obtain ⟨x, hx, hy⟩ := List.mem_flatMap.1 hy
    exact out_pok (h.all x hx) hm y hy
  · refine flat_up h (fun x hx => outP_up ⟨hm.2.2.1, hm.2.2.2⟩ ⟨(h.all x hx).a0, (h.all x hx).n0⟩) fun x hx y hy => ?_
    have := outP_in ⟨(h.all x hx).a0, (h.all x hx).n0⟩ ⟨hm.2.2.1, hm.2.2.2⟩ y hy
    exact ⟨this.1, this.2.2.1⟩
/-- The least place. -/
def placeG (n : Int) : List Pc → Int → Option Int × Int
  | [], a => (none, a)
  | x :: r, a => if n ≤ x.a - a then (some a, a) else placeG n r (x.a + x.n)
section
variable {w0 w : World} {L : List HP} {K : Value → WP} {b n : Nat} {size most : Int} {sv lv v : Value} {x : Pc} {S : List Pc}
theorem Cut_ok {at_ m : Int} (hI : I64 at_ ∧ I64 m) (d : D w0 (Rg b size most S :: L) w)
    (k1 : chkSt size at_ m ≠ 0 → ∀ w', D w0 (Rg b size most S :: L) w' → K (.tuple #[.slice none 0 0, .int .i64 (chkSt size at_ m)]) w')
    (k2 : chkSt size at_ m = 0 → (S.flatMap (outP at_ m)).length ≤ most → ∀ iv w', D w0 (Rw 27 5 iv (S.flatMap (inP at_ m)).length ((S.flatMap (inP at_ m)).flatMap pc) :: Rg b size most (S.flatMap (outP at_ m)) :: L) w' → K (.tuple #[iv, .int .i64 0]) w')
    (k3 : chkSt size at_ m = 0 → most < (S.flatMap (outP at_ m)).length → ∀ w', D w0 (Rg b size most S :: L) w' → K (.tuple #[.slice none 0 0, .int .i64 (-4)]) w') :
    Cl pg 11 #[.pointer (some ⟨b, 0, none⟩), .int .i64 at_, .int .i64 m] K w := by
  refine V.region_Region_Cut_ok ?_
  unfold V.region_Region_Cut
  refine fn30 (fun _ _ => rfl) (check_ok d fun w d => ?_)
  repeat (simp +decide only [SEM])
  refine ⟨fun h1 => k1 h1 w d, fun h1 => ?_⟩
  have h1 : chkSt size at_ m = 0 := by simpa using h1
  have hc := chk0 h1
  have ok := Rg.facts d
  refine fn30 (fun _ _ => rfl) (split_ok ⟨by omega, by omega, by omega⟩ d fun ov iv w d => ?_)
  obtain ⟨q1, c1, rfl, -⟩ := Rw.shape d.1
  obtain ⟨-, v, d⟩ := Rg.out (D.sel [2, 0, 1] d)
  repeat (first | (simp +decide only [SEM]) | (apply ldm d; (focus ((repeat (first | exact .h _ | refine .t _ _ ?_)); done)); (focus rfl)))
  refine ⟨fun h2 => ?_, fun h2 => ?_⟩
  · exact k3 h1 (by omega) w ((D.sel [1, 2, 0] (Rg.mk ok d)).tail.tail)
  · repeat (apply stm d; (focus ((repeat (first | exact .h _ | apply Rp.t)); done)); (focus rfl); (focus simp); (focus exact ones rfl); intro w d; simp only [SPL] at d)
    refine k2 h1 (by omega) _ w ?_
    exact (D.sel [2, 1, 0] (Rg.mk (cut_rok ok ⟨hc.1, hc.2.1, hc.2.2.1, hc.2.2.2.1⟩ (by omega)) (D.sel [0, 2, 3, 1] d))).tail
theorem List_ok (d : D w0 (Rg b size most S :: L) w) (k : ∀ lv w', D w0 (Rw 27 5 lv S.length (S.flatMap pc) :: Rg b size most S :: L) w' → K lv w') : Cl pg 14 #[.pointer (some ⟨b, 0, none⟩)] K w := by
  refine V.region_Region_List_ok ?_
  unfold V.region_Region_List
  obtain ⟨ok, v, d⟩ := Rg.out d
  have hl := ok.len
  have hmo := ok.mo
  repeat (first | (simp +decide only [SEM]) | (apply ldm d; (focus ((repeat (first | exact .h _ | refine .t _ _ ?_)); done)); (focus rfl)))
  refine fn10 (fun _ _ => rfl) (V.slices_Clone_Piece_Piece_ok ?_)
  refine gclone_ok (K := K) (P := pg) (n := S.length) Try.underlying22 rfl pcs_one (by omega) (by omega) d.swap fun sv' w d => ?_
  exact k _ _ (D.swap (Rg.mk ok (D.sel [2, 1, 0] d)))
theorem Place_ok {m : Int} (hI : I64 m) (d : D w0 (Rg b size most S :: L) w)
    (k1 : ¬ (0 < m ∧ m % 64 = 0) → ∀ w', D w0 (Rg b size most S :: L) w' → K (.tuple #[.int .i64 0, .int .i64 (-10)]) w')
    (k2 : 0 < m → m % 64 = 0 → ∀ a, (placeG m S 0).1 = some a → ∀ w', D w0 (Rg b size most S :: L) w' → K (.tuple #[.int .i64 a, .int .i64 0]) w')
    (k3 : 0 < m → m % 64 = 0 → (placeG m S 0).1 = none → size - (placeG m S 0).2 < m → ∀ w', D w0 (Rg b size most S :: L) w' → K (.tuple #[.int .i64 0, .int .i64 (-4)]) w')
    (k4 : 0 < m → m % 64 = 0 → (placeG m S 0).1 = none → m ≤ size - (placeG m S 0).2 → ∀ w', D w0 (Rg b size most S :: L) w' → K (.tuple #[.int .i64 (placeG m S 0).2, .int .i64 0]) w') :
    Cl pg 12 #[.pointer (some ⟨b, 0, none⟩), .int .i64 m] K w := by
  refine V.region_Region_Place_ok ?_
  unfold V.region_Region_Place
  unfold I64 at hI
  have ok := Rg.facts d
  have hl := ok.len
  have hmo := ok.mo
  have hsz := ok.sz
  repeat (simp +decide only [SEM])
  refine ⟨fun h1 => ?_, fun h1 => k1 (by omega) w d⟩
  repeat (refine bsl1 (by first | rfl | (simp only [cells_agg, cells_int, cells_bool, cells_ptr, cells_sl, cells_map, cells_fn, List.drop_succ_cons, List.drop_zero, List.take_succ_cons, List.take_zero, Nat.zero_add, Nat.reduceAdd, Int.toNat_natCast, Int.toNat_zero]; rfl)) rfl d (by decide) (by decide) fun bn w d => ?_)
  have d := row_of (l := [m]) d
  refine fn10 (fun _ _ => rfl) (pages_ok (l := [m]) (by simp) d fun w d => ?_)
  have d := d.tail
  by_cases h2 : m % 64 = 0
  · have e : ([m] : List Int).all pgB = true := by simp [pgB]; omega
    rw [e]
    obtain ⟨-, v, d⟩ := Rg.out d
    obtain ⟨q, c, rfl, -⟩ := Rw.shape d.swap.1
    repeat (first | (simp +decide only [SEM]) | (apply ldm d; (focus ((repeat (first | exact .h _ | refine .t _ _ ?_)); done)); (focus rfl)))
    refine ⟨fun vs w' => ∃ (i : Nat) (a : Int) (u : Value), vs = [u, .int .i64 a, .int .i64 i] ∧ i ≤ S.length ∧ (0 ≤ a ∧ a ≤ size) ∧ placeG m S 0 = placeG m (S.drop i) a ∧ D w0 (cel b 49 [.int .i64 size, .int .i64 most, .slice q S.length c] :: Rw 27 5 (.slice q S.length c) S.length (S.flatMap pc) :: L) w', fun vs _ => match vs with | [_, _, .int _ i] => S.length - i.toNat | _ => 0, ⟨0, 0, _, rfl, by omega, by omega, by simp, d⟩, ?_⟩
    clear d
    rintro _ w ⟨i, a, u, rfl, hi, ha, hpl, d⟩ _
    simp only [UN]
    repeat (simp +decide only [SEM])
    refine ⟨fun hlt => ?_, fun hge => ?_⟩
    · have hlt' : i < S.length := by omega
      have hp := ok.all _ (List.getElem_mem hlt')
      have g1 := hp.n0
      have g2 := hp.en
      have g3 := hp.a0
      rw [List.drop_eq_getElem_cons hlt', placeG] at hpl
      refine rw_elN d (.t _ _ (.h _)) pc_len hlt' ?_
      generalize S[i] = x at *
      have hpx : pc x = [.int .i64 x.a, .int .i64 x.n, .int .i64 x.v, .int .i64 x.f, .int .i64 x.p] := rfl
      rw [hpx]
      refine d_new _ d fun bn w d => ?_
      generalize bn = bx at d ⊢
      repeat (first | (simp +decide only [SEM]) | (apply ldm d; (focus ((repeat (first | exact .h _ | refine .t _ _ ?_)); done)); (focus rfl)) | (apply swm d; (focus ((repeat (first | exact .h _ | apply Rp.t)); done)); (focus rfl); (focus rfl); (focus exact ones rfl); intro w d; simp only [SPL] at d))
      rw [w64 (n := x.a - a) (by omega) (by omega)]
      refine ⟨fun h3 => ?_, fun h3 => ?_⟩
      · rw [if_pos h3] at hpl
        exact k2 (by omega) h2 a (by rw [hpl]) w (Rg.mk ok d.tail)
      · rw [if_neg h3] at hpl
        repeat (apply lam d; (focus ((repeat (first | exact .h _ | refine .t _ _ ?_)); done)); (focus rfl))
        refine fn10 (fun _ _ => rfl) (end_ok (x := x) ⟨by omega, by omega, by omega, by omega⟩ d fun w d => ?_)
        repeat (simp +decide only [SEM])
        rw [w64 (by omega) (by omega)]
        exact ⟨⟨i + 1, x.a + x.n, u, by simp, by omega, by omega, hpl, d.tail⟩, by omega⟩
    · have hi' : i = S.length := by omega
      subst hi'
      rw [List.drop_length, placeG] at hpl
      repeat (first | (simp +decide only [SEM]) | (apply ldm d; (focus ((repeat (first | exact .h _ | refine .t _ _ ?_)); done)); (focus rfl)))
      rw [w64 (by omega) (by omega)]
      refine ⟨fun h3 => ?_, fun h3 => ?_⟩
      · exact k3 (by omega) h2 (by rw [hpl]) (by rw [hpl]; exact h3) w (Rg.mk ok d)
      · have := k4 (by omega) h2 (by rw [hpl]) (by rw [hpl]; show m ≤ size - a; omega) w (Rg.mk ok d)
        rwa [hpl] at this
  · have e : ([m] : List Int).all pgB = false := by simp [pgB]; omega
    rw [e]
    repeat (simp +decide only [SEM])
    exact k1 (by omega) w d
theorem awake_ok (d : D w0 L w) (k : ∀ w', D w0 L w' → K (.bool true) w') : Cl pg 7 #[] K w := by
  refine V.jacinthlaw09_awake_ok ?_
  unfold V.jacinthlaw09_awake
  refine fn20 (fun _ _ => rfl) (New_ok (by omega) (by omega) (by omega) d fun b w d => ?_)
  repeat (first | (simp +decide only [SEM]) | (((repeat (refine bld_c rfl rfl (by simp) ?_; simp only [List.set_cons_zero, List.set_cons_succ])); refine bld_n ?_)))
  have i0 : ∀ n : Int, 0 ≤ n → n ≤ 1000 → I64 n := fun n h1 h2 => ⟨by omega, by omega⟩
  refine fn20 (fun _ _ => rfl) (Put_ok (x := ⟨0, 192, 1, 0, 3⟩) ⟨i0 _ (by decide) (by decide), i0 _ (by decide) (by decide), i0 _ (by decide) (by decide), i0 _ (by decide) (by decide), i0 _ (by decide) (by decide)⟩ (by simp) d (fun h => ?_) (fun h w d => ?_))
  · exact absurd (by decide) h
  have hS : insP [] ⟨0, 192, 1, 0, 3⟩ = [⟨0, 192, 1, 0, 3⟩] := rfl
  rw [hS] at d
  repeat (simp +decide only [SEM])
  refine fn30 (fun _ _ => rfl) (Cut_ok (at_ := 64) (m := 64) ⟨i0 _ (by decide) (by decide), i0 _ (by decide) (by decide)⟩ d (fun hs w d => ?_) (fun h1 h2 iv w d => ?_) (fun h1 h2 w d => ?_))
  · exact absurd (by decide) hs
  · have e1 : ([⟨0, 192, 1, 0, 3⟩] : List Pc).flatMap (inP 64 64) = [⟨64, 64, 1, 64, 3⟩] := rfl
    have e2 : ([⟨0, 192, 1, 0, 3⟩] : List Pc).flatMap (outP 64 64) = [⟨0, 64, 1, 0, 3⟩, ⟨128, 64, 1, 128, 3⟩] := rfl
    rw [e1, e2] at d
    obtain ⟨q, c, rfl, -⟩ := Rw.shape d.1
    repeat (first | (simp +decide only [SEM]) | (focus (apply rw_fld d; (focus ((repeat (first | exact .h _ | refine .t _ _ ?_)); done)); (focus exact fun _ => rfl); (focus rfl); rotate_left; (focus (first | omega | (simp; done) | (simp; omega))))))
    refine fn10 (fun _ _ => rfl) (List_ok (D.sel [1] d) fun lv w d => ?_)
    obtain ⟨q, c, rfl, -⟩ := Rw.shape d.1
    repeat (simp +decide only [SEM])
    exact k w d.tail.tail.tail
  · exact absurd h2 (by decide)
end
end Go.Proofs.Ytplllehpaimpiaa
