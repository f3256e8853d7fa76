/- Regions: the law of cutting and putting back. -/
import Derived.Test.YtplllehpaimpiaaGh
set_option maxRecDepth 100000
set_option maxHeartbeats 8000000
namespace Go.Proofs.Ytplllehpaimpiaa
open Go Go.Jac
def Has (S : List Pc) (t : Int) (c : Int × Int × Int) : Prop := ∃ x ∈ S, cov x t ∧ vals x = c
def sumN (S : List Pc) : Int := (S.map (·.n)).sum
section
variable {size most : Int} {S : List Pc} {x y : Pc} {t m at_ : Int}
theorem val_iff (h : Rok size most S) (ht : 0 ≤ t) (c : Int × Int × Int) : (fnd S t).map vals = some c ↔ Has S t c := by
  rw [Option.map_eq_some_iff]
  constructor
  · rintro ⟨x, hx, rfl⟩
    have := (fnd_some h ht).1 hx
    exact ⟨x, this.1, this.2, rfl⟩
  · rintro ⟨x, hx, hc, rfl⟩
    exact ⟨x, (fnd_some h ht).2 ⟨hx, hc⟩, rfl⟩
theorem has_cut (h : Rok size most S) (hm : 0 ≤ at_ ∧ 0 < m) (c : Int × Int × Int) : Has (S.flatMap (outP at_ m)) t c ∨ Has (S.flatMap (inP at_ m)) t c ↔ Has S t c := by
  constructor
  · rintro (⟨y, hy, hc, hv⟩ | ⟨y, hy, hc, hv⟩)
    · obtain ⟨x, hx, hy⟩ := List.mem_flatMap.1 hy
      obtain ⟨h1, h2, h3, h4, _⟩ := outP_in ⟨(h.all x hx).a0, (h.all x hx).n0⟩ hm y hy
      unfold cov at hc
      exact ⟨x, hx, ⟨by omega, by omega⟩, by rw [← hv, h4]⟩
    · obtain ⟨x, hx, hy⟩ := List.mem_flatMap.1 hy
      obtain ⟨h1, h2, h3, h4, _⟩ := inP_in ⟨(h.all x hx).a0, (h.all x hx).n0⟩ hm y hy
      unfold cov at hc
      exact ⟨x, hx, ⟨by omega, by omega⟩, by rw [← hv, h4]⟩
  · rintro ⟨x, hx, hc, hv⟩
    unfold cov at hc
    have a0 := (h.all x hx).a0
    have n0 := (h.all x hx).n0
    cases ho : ovB x.a x.n at_ m with
    | false =>
      refine .inl ⟨x, List.mem_flatMap.2 ⟨x, hx, ?_⟩, hc, hv⟩
      unfold outP
      rw [ho]; simp
    | true =>
      have ho2 := ho
      unfold ovB at ho2
      have ho2 := of_decide_eq_true ho2
      rcases Int.lt_or_le t at_ with h1 | h1
      · refine .inl ⟨part x x.a at_, List.mem_flatMap.2 ⟨x, hx, ?_⟩, ?_, ?_⟩
        · unfold outP
          rw [ho, if_pos rfl, if_pos (by omega)]; simp
        · unfold cov part; simp only; omega
        · rw [← hv]; simp only [vals, part, Prod.mk.injEq, true_and]; omega
      · rcases Int.lt_or_le t (at_ + m) with h2 | h2
        · refine .inr ⟨part x at_ (at_ + m), List.mem_flatMap.2 ⟨x, hx, ?_⟩, ?_, ?_⟩
          · unfold inP
            rw [ho, if_pos rfl]; simp
          · unfold cov part; simp only; omega
          · rw [← hv]; simp only [vals, part, Prod.mk.injEq, true_and]; omega
        · refine .inl ⟨part x (at_ + m) (x.a + x.n), List.mem_flatMap.2 ⟨x, hx, ?_⟩, ?_, ?_⟩
          · unfold outP
            rw [ho, if_pos rfl, if_pos (show at_ + m < x.a + x.n by omega)]; simp
          · unfold cov part; simp only; omega
          · rw [← hv]; simp only [vals, part, Prod.mk.injEq, true_and]; omega
theorem sumN_app (A B : List Pc) : sumN (A ++ B) = sumN A + sumN B := by unfold sumN; rw [List.map_append, List.sum_append]
theorem sumN_cons (x : Pc) (A : List Pc) : sumN (x :: A) = x.n + sumN A := by unfold sumN; rw [List.map_cons, List.sum_cons]
theorem sumN_ins (S : List Pc) (x : Pc) : sumN (insP S x) = x.n + sumN S := by
  unfold insP
  rw [sumN_app, sumN_cons]
  have := sumN_app (S.take (pos S x.a)) (S.drop (pos S x.a))
  rw [List.take_append_drop] at this
  omega
theorem sum_bd (h : Rok size most S) : 0 ≤ sumN S ∧ sumN S ≤ (S.length : Int) * size := by
  have key : ∀ S : List Pc, (∀ x ∈ S, Pok size x) → 0 ≤ sumN S ∧ sumN S ≤ (S.length : Int) * size := by
    intro S
    induction S with
    | nil => intro _; simp [sumN]
    | cons x r ih =>
      intro h
      have h1 := ih fun y hy => h y (by simp [hy])
      have h2 := h x (by simp)
      have := h2.n0; have := h2.en; have := h2.a0
      rw [sumN_cons, List.length_cons]
      have e : ((r.length + 1 : Nat) : Int) * size = (r.length : Int) * size + size := by rw [Int.natCast_add, Int.add_mul]; simp
      rw [e]
      omega
  exact key S h.all
theorem sum_one (hx : 0 ≤ x.a ∧ 0 < x.n) (hm : 0 ≤ at_ ∧ 0 < m) : sumN (outP at_ m x) + sumN (inP at_ m x) = x.n := by
  unfold outP inP
  split
  · rename_i h
    unfold ovB at h
    have h := of_decide_eq_true h
    rw [sumN_app]
    split <;> split <;> simp only [sumN, part, List.map_cons, List.map_nil, List.sum_cons, List.sum_nil] <;> omega
  · simp [sumN]
theorem sum_cut (hm : 0 ≤ at_ ∧ 0 < m) : ∀ {S : List Pc}, (∀ x ∈ S, 0 ≤ x.a ∧ 0 < x.n) → sumN (S.flatMap (outP at_ m)) + sumN (S.flatMap (inP at_ m)) = sumN S
  | [], _ => rfl
  | x :: r, h => by
    have h1 := sum_one (h x (by simp)) hm
    have h2 := sum_cut hm (S := r) fun y hy => h y (by simp [hy])
    rw [List.flatMap_cons, List.flatMap_cons, sumN_app, sumN_app, sumN_cons]
    omega
end
section
variable {w0 w : World} {L : List HP} {K : Value → WP} {b n : Nat} {size most : Int} {sv lv v : Value} {x : Pc} {S : List Pc}
variable {α : Type} {g : α → List Value} {W : List α} {es : Nat}
theorem arr_st {ba t k : Nat} {y : α} (hg : ∀ x, (g x).length = es) (hk : k < W.length) (h1 : ∀ u ∈ g y, u.oneCell' = true) (d : D w0 (cel ba t (W.flatMap g) :: L) w) (kk : ∀ w', D w0 (cel ba t ((W.set k y).flatMap g) :: L) w' → K undef w') : St es (.pointer (some ⟨ba, k * es, none⟩)) (.agg (g y).toArray) K w := by
  obtain ⟨pre, post, e1, e2, e3⟩ := flat_at hg hk
  have hl : k * es + es ≤ (W.flatMap g).length := by rw [flat_len hg, ← Nat.succ_mul]; exact Nat.mul_le_mul_right _ hk
  refine d_st (o := k * es) d (by rw [cells_agg, List.size_toArray, hg]) hl (by rw [cells_agg]; exact h1) fun w' d' => kk w' ?_
  have key : splice (W.flatMap g) (k * es) (Value.agg (g y).toArray).cells.toList = (W.set k y).flatMap g := by
    rw [cells_agg, e1, e3]
    show splice (pre ++ g W[k] ++ post) (k * es) (g y) = _
    rw [splice_mid (o := 0) (by omega) (by rw [hg, hg]; omega), splice_whole (by rw [hg, hg])]
  rw [key] at d'
  exact d'
theorem arr_at {k : Nat} (hg : ∀ x, (g x).length = es) (hk : k < W.length) : ((W.flatMap g).drop (k * es)).take es = g W[k] := by
  obtain ⟨pre, post, e1, e2, e3⟩ := flat_at hg hk
  rw [e1, ← e2, List.append_assoc, List.drop_left, ← hg W[k], List.take_left]
theorem idx_ok {t e m k : Nat} {cs : List Value} {P : Program} {inf : TypeInfo} (ht : P.underlying t = some (.array m e)) (ha : ∀ w, (isAgg e).run P w = .ok true w) (hi : P.info? e = some inf) (hk : k < m) (kk : K (.agg ((cs.drop (k * inf.size)).take inf.size).toArray) w) : Ex P (Instr.index t (.agg cs.toArray) (.int .i64 k)) K w := by
  refine ⟨_, w, ?_, kk⟩
  have h0 : (0 : Int) ≤ (k : Int) ∧ (k : Int) < (m : Int) := ⟨by omega, by omega⟩
  have e1 : cs.toArray.extract (k * inf.size) (k * inf.size + inf.size) = ((cs.drop (k * inf.size)).take inf.size).toArray := by
    apply Array.ext'
    simp
  simp [Instr.index, run_underlying ht, asIntOf, hk, Go.part, ha, Go.Jac.run_sizeOf hi]
end
section
variable {w0 w : World} {L : List HP} {K : Value → WP} {b n : Nat} {size most : Int} {sv lv v : Value} {x : Pc} {S : List Pc}
theorem back_ok {l : List Pc} {at_ m : Int} (hat : I64 at_) (hm0 : I64 m) (hl : l.length ≤ maxLen) (hop : ∀ x ∈ l, Pi x) (ho : OldL w0 5 pc lv l) (hm : Old w0 ∈ L) (d : D w0 L w) (k : ∀ w', D w0 L w' → K (.bool true) w') :
    Cl pg 3 #[lv, .int .i64 at_, .int .i64 m] K w := by
  refine V.jacinthlaw09_RegionBack_ok ?_
  unfold V.jacinthlaw09_RegionBack
  have aw : ∀ (w : World), D w0 L w → Cl pg 7 #[] (fun v w => K v w) w := fun w d => awake_ok d k
  refine fn20 (fun _ _ => rfl) (New_ok (by omega) (by omega) (by omega) d fun b w d => ?_)
  repeat (simp +decide only [SEM])
  refine ho.len ?_
  repeat (simp +decide only [SEM])
  refine ⟨fun h => fn00 (fun _ _ => rfl) (aw w d.tail), fun h => ?_⟩
  refine ho.len ?_
  refine ⟨fun vs w' => ∃ (i : Nat) (S : List Pc) (u : Value), vs = [u, .int .i64 i] ∧ i ≤ l.length ∧ S.length ≤ i ∧ (∀ y ∈ S, I64 y.v ∧ y.f - y.a ≤ 2147483648) ∧ D w0 (Rg b 1024 200 S :: L) w', fun vs _ => match vs with | [_, .int _ i] => l.length - i.toNat | _ => 0, ⟨0, [], _, rfl, by omega, by simp, by simp, d⟩, ?_⟩
  clear d
  rintro _ w ⟨i, S, u, rfl, hi, hSi, hv, d⟩ _
  simp only [UN]
  repeat (simp +decide only [SEM])
  refine ⟨fun hlt => ?_, fun hge => ?_⟩
  · have hlt' : i < l.length := by omega
    refine ho.ia (by omega) hlt fun a ha => ?_
    simp only [Int.toNat_natCast] at ha
    refine old_ldN (pc l[i]) d (by simp [hm]) rfl (fun j x hx => ha j x hx) ?_
    have hx := hop l[i] (List.getElem_mem _)
    generalize l[i] = x at hx ⊢
    have hpx : pc x = [.int .i64 x.a, .int .i64 x.n, .int .i64 x.v, .int .i64 x.f, .int .i64 x.p] := rfl
    rw [hpx]
    repeat (first | (simp +decide only [SEM]) | (apply ldm d; (focus ((repeat (first | exact .h _ | refine .t _ _ ?_)); done)); (focus rfl)) | (refine d_new _ d fun bn w d => ?_) | (apply swm d; (focus ((repeat (first | exact .h _ | apply Rp.t)); done)); (focus rfl); (focus rfl); (focus exact ones rfl); intro w d; simp only [SPL] at d))
    refine ⟨fun h1 => fn00 (fun _ _ => rfl) (aw w d.tail.tail), fun h1 => ?_⟩
    repeat (apply lam d; (focus ((repeat (first | exact .h _ | refine .t _ _ ?_)); done)); (focus rfl))
    refine fn20 (fun _ _ => rfl) (Put_ok (x := x) hx (fun y hy => (hv y hy).1) (D.sel [1, 0] d) (fun hp w d => ?_) (fun hp w d => ?_))
    · repeat (simp +decide only [SEM])
      rw [w64 (by omega) (by omega)]
      exact ⟨⟨i + 1, S, u, by simp, by omega, by omega, hv, d.tail2⟩, by omega⟩
    · repeat (simp +decide only [SEM])
      rw [w64 (by omega) (by omega)]
      refine ⟨⟨i + 1, insP S x, u, by simp, by omega, ?_, fun y hy => ?_, d.tail2⟩, by omega⟩
      · rw [ins_perm.length_eq, List.length_cons]; omega
      · rcases ins_mem.1 hy with rfl | hy
        · have := (put0.1 hp).a0
          exact ⟨hx.2.2.1, by omega⟩
        · exact hv y hy
  · have ok := Rg.facts d
    have hv1 : ∀ y ∈ S, I64 y.v := fun y hy => (hv y hy).1
    refine d_new (List.flatMap pcO (List.replicate 16 none)) d fun ba w d => ?_
    have d0 : D w0 (cel ba 30 (((List.range 0).map (fun j : Nat => fnd S (64 * (j : Int))) ++ List.replicate (16 - 0) none).flatMap pcO) :: Rg b 1024 200 S :: L) w := d
    clear d
    refine ⟨fun vs w' => ∃ (j : Nat), vs = [.int .i64 j] ∧ j ≤ 16 ∧ D w0 (cel ba 30 (((List.range j).map (fun j : Nat => fnd S (64 * (j : Int))) ++ List.replicate (16 - j) none).flatMap pcO) :: Rg b 1024 200 S :: L) w', fun vs _ => match vs with | [.int _ j] => 16 - j.toNat | _ => 0, ⟨0, rfl, by omega, d0⟩, ?_⟩
    clear d0
    rintro _ w ⟨j, rfl, hj, d⟩ _
    simp only [UN]
    repeat (simp +decide only [SEM])
    refine ⟨fun hlt => ?_, fun hge => ?_⟩
    · have hj' : j < 16 := by omega
      rw [w64 (n := 64 * (j : Int)) (by omega) (by omega)]
      refine fn20 (fun _ _ => rfl) (Find_ok ⟨by omega, by omega⟩ (by omega) hv1 d.swap fun w d => ?_)
      repeat (simp +decide only [SEM])
      refine ⟨_, _, _, rfl, rfl, by omega, by omega, ?_⟩
      have hW : ((List.range j).map (fun j : Nat => fnd S (64 * (j : Int))) ++ List.replicate (16 - j) none).length = 16 := by simp; omega
      rw [add_of, Nat.zero_add, Int.toNat_natCast]
      refine arr_st (k := j) pcO_len (by rw [hW]; exact hj') (pcO_one _) d.swap fun w d => ?_
      repeat (simp +decide only [SEM])
      rw [w64 (by omega) (by omega)]
      refine ⟨⟨j + 1, by simp, by omega, ?_⟩, by show 16 - ((j : Int) + 1).toNat < 16 - (j : Int).toNat; omega⟩
      have e : (((List.range j).map (fun j : Nat => fnd S (64 * (j : Int))) ++ List.replicate (16 - j) none).set j (fnd S (64 * (j : Int)))) = (List.range (j + 1)).map (fun j : Nat => fnd S (64 * (j : Int))) ++ List.replicate (16 - (j + 1)) none := by
        rw [List.set_append_right _ _ (by simp), List.length_map, List.length_range, Nat.sub_self, show 16 - j = (16 - (j + 1)) + 1 from by omega, List.replicate_succ, List.set_cons_zero, List.range_succ, List.map_append]
        simp
      rw [e] at d
      exact d
    · have hj' : j = 16 := by omega
      subst hj'
      rw [Nat.sub_self, List.replicate_zero, List.append_nil] at d
      generalize hW : (List.range 16).map (fun j : Nat => fnd S (64 * (j : Int))) = W at d
      refine fn10 (fun _ _ => rfl) (Mapped_ok d.swap fun w d => ?_)
      skip
      refine fn30 (fun _ _ => rfl) (Cut_ok ⟨hat, hm0⟩ d (fun h1 w d => ?_) (fun h1 h2 iv w d => ?_) (fun h1 h2 w d => ?_))
      · repeat (simp +decide only [SEM])
        refine ⟨fun _ => ?_, fun h => absurd h h1⟩
        skip
        refine fn10 (fun _ _ => rfl) (Mapped_ok d fun w d => ?_)
        repeat (simp +decide only [SEM])
        exact fn00 (fun _ _ => rfl) (aw w d.tail.tail)
      · have hc := chk0 h1
        have hm2 : 0 ≤ at_ ∧ 0 < m := ⟨by omega, by omega⟩
        have hcs := sum_cut hm2 (S := S) fun x hx => ⟨(ok.all x hx).a0, (ok.all x hx).n0⟩
        have hIl := ins_len at_ m S
        have hOl := outs_len at_ m S
        have hIup := flat_up ok (fun x _ => inP_up (at_ := at_) (m := m) (x := x)) fun x hx y hy => by
          have := inP_in ⟨(ok.all x hx).a0, (ok.all x hx).n0⟩ hm2 y hy
          exact ⟨this.1, this.2.2.1⟩
        have hIin : ∀ y ∈ S.flatMap (inP at_ m), Pok 1024 y ∧ at_ ≤ y.a ∧ y.a + y.n ≤ at_ + m ∧ I64 y.v ∧ y.f - y.a ≤ 2147483648 := fun y hy => by
          obtain ⟨x, hx, hy⟩ := List.mem_flatMap.1 hy
          have h3 := inP_in ⟨(ok.all x hx).a0, (ok.all x hx).n0⟩ hm2 y hy
          have e1 : y.v = x.v := congrArg (fun c => c.1) h3.2.2.2.1
          have e2 : y.f - y.a = x.f - x.a := congrArg (fun c => c.2.2) h3.2.2.2.1
          exact ⟨in_pok (ok.all x hx) ⟨hc.1, hc.2.1, hm2.1, hm2.2⟩ y hy, h3.2.2.2.2.1, h3.2.2.2.2.2, by rw [e1]; exact (hv x hx).1, by rw [e2]; exact (hv x hx).2⟩
        have hOin : ∀ y ∈ S.flatMap (outP at_ m), (y.a + y.n ≤ at_ ∨ at_ + m ≤ y.a) ∧ I64 y.v ∧ y.f - y.a ≤ 2147483648 := fun y hy => by
          obtain ⟨x, hx, hy⟩ := List.mem_flatMap.1 hy
          have h3 := outP_in ⟨(ok.all x hx).a0, (ok.all x hx).n0⟩ hm2 y hy
          have e1 : y.v = x.v := congrArg (fun c => c.1) h3.2.2.2.1
          have e2 : y.f - y.a = x.f - x.a := congrArg (fun c => c.2.2) h3.2.2.2.1
          exact ⟨h3.2.2.2.2, by rw [e1]; exact (hv x hx).1, by rw [e2]; exact (hv x hx).2⟩
        have hhas := fun (t : Int) (c : Int × Int × Int) => has_cut (t := t) ok hm2 c
        generalize hgI : S.flatMap (inP at_ m) = I at *
        generalize hgO : S.flatMap (outP at_ m) = O at *
        obtain ⟨qi, ci, rfl, -⟩ := Rw.shape d.1
        repeat (simp +decide only [SEM])
        have hsb : ∀ i, i ≤ I.length → 0 ≤ sumN (I.take i) ∧ sumN (I.take i) ≤ (i : Int) * 1024 := by
          intro i
          induction i with
          | zero => intro _; simp [sumN]
          | succ i ih =>
            intro hi
            have h3 := ih (by omega)
            rw [List.take_succ_eq_append_getElem (by omega), sumN_app]
            have h4 := (hIin _ (List.getElem_mem (show i < I.length by omega))).1
            have h5 := h4.n0
            have h6 := h4.en
            have h7 := h4.a0
            simp only [sumN, List.map_cons, List.map_nil, List.sum_cons, List.sum_nil] at *
            omega
        have hIs := hsb I.length (Nat.le_refl _)
        rw [List.take_length] at hIs
        have hSs : (S.map (·.n)).sum = sumN S := rfl
        refine ⟨fun vs w' => ∃ (i : Nat) (u2 : Value), vs = [.int .i64 (sumN (I.take i)), u2, .int .i64 i] ∧ i ≤ I.length ∧ D w0 (Rw 27 5 (.slice qi I.length ci) I.length (I.flatMap pc) :: Rg b 1024 200 O :: cel ba 30 (W.flatMap pcO) :: L) w', fun vs _ => match vs with | [_, _, .int _ i] => I.length - i.toNat | _ => 0, ⟨0, _, rfl, by omega, d⟩, ?_⟩
        clear d
        rintro _ w ⟨i, u2, rfl, hi, d⟩ _
        simp only [UN]
        repeat (simp +decide only [SEM])
        refine ⟨fun hlt => ?_, fun hge => ?_⟩
        · have hlt' : i < I.length := by omega
          refine rw_elN d (.h _) pc_len hlt' ?_
          have hp := hIin _ (List.getElem_mem hlt')
          have h3 := hp.1.n0
          have h4 := hp.1.en
          have h5 := hp.1.a0
          have hs1 := hsb i (by omega)
          have hs2 : sumN (I.take (i + 1)) = sumN (I.take i) + I[i].n := by rw [List.take_succ_eq_append_getElem hlt', sumN_app]; simp [sumN]
          have hprev : 0 < i → I[i - 1].a < I[i].a := fun h0 => by
            have h6 := List.pairwise_iff_getElem.1 hIup (i - 1) i (by omega) hlt' (by omega)
            have h7 := (hIin _ (List.getElem_mem (show i - 1 < I.length by omega))).1.n0
            omega
          have hpx : pc I[i] = [.int .i64 I[i].a, .int .i64 I[i].n, .int .i64 I[i].v, .int .i64 I[i].f, .int .i64 I[i].p] := rfl
          rw [hpx]
          repeat (first | refine drw d fun w d => ?_ | (simp +decide only [SEM]) | (apply ldm d; (focus ((repeat (first | exact .h _ | refine .t _ _ ?_)); done)); (focus rfl)) | (refine d_new _ d fun bn w d => ?_) | refine qt d ?_ | refine qe_nil ?_ | (apply qlm; (focus ((repeat (first | exact .h _ | refine .t _ _ ?_)); done)); (focus rfl)) | (apply swm d; (focus ((repeat (first | exact .h _ | apply Rp.t)); done)); (focus rfl); (focus rfl); (focus exact ones rfl); intro w d; simp only [SPL] at d))
          generalize bn = bx at d ⊢
          refine ⟨fun _ => ?_, fun h => by omega⟩
          repeat (first | (simp +decide only [SEM]) | refine qe_nil ?_ | (apply qlm; (focus ((repeat (first | exact .h _ | refine .t _ _ ?_)); done)); (focus rfl)) | refine qe_op (fun _ _ => BinI_add) ?_)
          rw [w64 (n := I[i].a + I[i].n) (by omega) (by omega), w64 (n := at_ + m) (by omega) (by omega)]
          refine ⟨fun _ => ?_, fun h => by omega⟩
          have nxt : ∀ w, D w0 (cel bx 27 [.int .i64 I[i].a, .int .i64 I[i].n, .int .i64 I[i].v, .int .i64 I[i].f, .int .i64 I[i].p] :: Rw 27 5 (.slice qi I.length ci) I.length (I.flatMap pc) :: Rg b 1024 200 O :: cel ba 30 (W.flatMap pcO) :: L) w →
              (∃ (i' : Nat) (u3 : Value), [.int .i64 (IntKind.i64.wrap (sumN (I.take i) + I[i].n)), u2, .int .i64 (IntKind.i64.wrap ((i : Int) + 1))] = [Value.int .i64 (sumN (I.take i')), u3, .int .i64 i'] ∧ i' ≤ I.length ∧ D w0 (Rw 27 5 (.slice qi I.length ci) I.length (I.flatMap pc) :: Rg b 1024 200 O :: cel ba 30 (W.flatMap pcO) :: L) w) ∧ I.length - (IntKind.i64.wrap ((i : Int) + 1)).toNat < I.length - i := fun w d => by
            rw [w64 (by omega) (by omega), w64 (by omega) (by omega)]
            exact ⟨⟨i + 1, u2, by rw [hs2]; simp, by omega, d.tail⟩, by omega⟩
          repeat (first | (simp +decide only [SEM]) | refine qt d ?_)
          refine ⟨fun h6 => ?_, fun h6 => nxt w d⟩
          have h7 : IntKind.i64.wrap ((i : Int) - 1) = ((i - 1 : Nat) : Int) := by rw [w64 (by omega) (by omega)]; omega
          obtain ⟨bi, c9, e⟩ := rw_ptr d (.t _ _ (.h _)) (by omega)
          cases e
          have hi1 : i - 1 < I.length := by omega
          repeat (refine qe_op (fun _ _ => BinI_sub) ?_)
          rw [h7]
          repeat (first | (simp +decide only [SEM]) | refine qe_nil ?_ | (apply qlm; (focus ((repeat (first | exact .h _ | refine .t _ _ ?_)); done)); (focus rfl)) | refine qia (by first | omega | (simp; omega)) ?_ | (focus (apply ql0; (focus ((repeat (first | exact .h _ | refine .t _ _ ?_)); done)); (focus exact fun _ => rfl); (focus rfl); rotate_left; (focus (first | omega | (simp; done) | (simp; omega))))))
          exact ⟨fun h8 => absurd (hprev (by omega)) (by omega), fun _ => nxt w d⟩
        · have hi' : i = I.length := by omega
          subst hi'
          rw [List.take_length]
          refine fn10 (fun _ _ => rfl) (Mapped_ok d.swap fun w d => ?_)
          have hOs : (O.map (·.n)).sum = sumN O := rfl
          rw [hOs, hSs]
          have hbO := sum_bd (Rg.facts d)
          have hbS := sum_bd ok
          repeat (simp +decide only [SEM])
          rw [w64 (n := sumN S - sumN I) (by omega) (by omega)]
          refine ⟨fun h => by omega, fun _ => ?_⟩
          skip
          refine ⟨fun vs w' => ∃ (j : Nat) (C : List Pc) (u3 : Value), vs = [u3, .int .i64 j] ∧ j ≤ I.length ∧ C.length = O.length + j ∧ (∀ y, y ∈ C ↔ y ∈ O ∨ y ∈ I.take j) ∧ sumN C = sumN O + sumN (I.take j) ∧ D w0 (Rg b 1024 200 C :: Rw 27 5 (.slice qi I.length ci) I.length (I.flatMap pc) :: cel ba 30 (W.flatMap pcO) :: L) w', fun vs _ => match vs with | [_, .int _ j] => I.length - j.toNat | _ => 0, ⟨0, O, _, rfl, by omega, rfl, by simp, by simp [sumN], d⟩, ?_⟩
          clear d
          rintro _ w ⟨j, C, u3, rfl, hj, hCl, hC, hCs, d⟩ _
          simp only [UN]
          have okC := Rg.facts d
          have hvC : ∀ y ∈ C, I64 y.v := fun y hy => by
            rcases (hC y).1 hy with h3 | h3
            · exact (hOin y h3).2.1
            · exact (hIin y (List.mem_of_mem_take h3)).2.2.2.1
          repeat (simp +decide only [SEM])
          refine ⟨fun hlt => ?_, fun hge2 => ?_⟩
          · have hlt' : j < I.length := by omega
            refine rw_elN d (.t _ _ (.h _)) pc_len hlt' ?_
            have hp := hIin _ (List.getElem_mem hlt')
            have h3 := hp.1.n0
            have h4 := hp.1.en
            have h5 := hp.1.a0
            have hpx : pc I[j] = [.int .i64 I[j].a, .int .i64 I[j].n, .int .i64 I[j].v, .int .i64 I[j].f, .int .i64 I[j].p] := rfl
            rw [hpx]
            repeat (first | (apply lam d; (focus ((repeat (first | exact .h _ | refine .t _ _ ?_)); done)); (focus rfl)) | (refine d_new _ d fun bn w d => ?_) | (apply swm d; (focus ((repeat (first | exact .h _ | apply Rp.t)); done)); (focus rfl); (focus rfl); (focus exact ones rfl); intro w d; simp only [SPL] at d))
            generalize bn = bx at d ⊢
            have hpok : putSt 1024 200 C I[j] = 0 := put0.2 ⟨hp.1.am, hp.1.nm, hp.1.fm, hp.1.a0, hp.1.n0, hp.1.en, ⟨hp.1.f0, by have := hp.2.2.2.2; omega⟩, hp.1.pr, fun z hz => by
              have hno : z.a + z.n ≤ I[j].a ∨ I[j].a + I[j].n ≤ z.a := by
                rcases (hC z).1 hz with h6 | h6
                · have := (hOin z h6).1
                  have := hp.2.1
                  have := hp.2.2.1
                  omega
                · obtain ⟨i, hi, rfl⟩ := List.getElem_of_mem h6
                  rw [List.length_take] at hi
                  rw [List.getElem_take]
                  exact .inl (List.pairwise_iff_getElem.1 hIup i j (by omega) hlt' (by omega))
              cases hov : ovB z.a z.n I[j].a I[j].n with
              | false => rfl
              | true =>
                unfold ovB at hov
                have := of_decide_eq_true hov
                omega, by omega⟩
            refine fn20 (fun _ _ => rfl) (Put_ok (x := I[j]) ⟨⟨by omega, by omega⟩, ⟨by omega, by omega⟩, hp.2.2.2.1, ⟨by have := hp.1.f0; omega, by have := hp.2.2.2.2; omega⟩, ⟨by have := hp.1.pr; omega, by have := hp.1.pr; omega⟩⟩ hvC (D.sel [1, 0] d) (fun hne w d => absurd hpok hne) (fun _ w d => ?_))
            repeat (simp +decide only [SEM])
            rw [w64 (by omega) (by omega)]
            refine ⟨⟨j + 1, insP C I[j], u3, by simp, by omega, ?_, fun y => ?_, ?_, (D.sel [1, 0] d).tail⟩, by omega⟩
            · rw [ins_perm.length_eq, List.length_cons]; omega
            · rw [ins_mem, hC, List.take_succ_eq_append_getElem hlt', List.mem_append, List.mem_singleton]
              constructor
              · rintro (h6 | h6 | h6)
                · exact .inr (.inr h6)
                · exact .inl h6
                · exact .inr (.inl h6)
              · rintro (h6 | h6 | h6)
                · exact .inr (.inl h6)
                · exact .inr (.inr h6)
                · exact .inl h6
            · rw [sumN_ins, hCs, List.take_succ_eq_append_getElem hlt', sumN_app]
              simp [sumN]; omega
          · have hj' : j = I.length := by omega
            subst hj'
            rw [List.take_length] at hC hCs
            have hWl : W.length = 16 := by rw [← hW]; simp
            refine lam d (.t _ _ (.t _ _ (.h _))) (by rw [flat_len pcO_len, hWl]) ?_
            refine ⟨fun vs w' => ∃ (k : Nat) (u4 : Value), vs = [u4, .int .i64 k] ∧ k ≤ 16 ∧ D w0 (Rg b 1024 200 C :: Rw 27 5 (.slice qi I.length ci) I.length (I.flatMap pc) :: cel ba 30 (W.flatMap pcO) :: L) w', fun vs _ => match vs with | [_, .int _ k] => 16 - k.toNat | _ => 0, ⟨0, _, rfl, by omega, d⟩, ?_⟩
            clear d
            rintro _ w ⟨kk, u4, rfl, hk, d⟩ _
            simp only [UN]
            repeat (simp +decide only [SEM])
            refine ⟨fun hlt => ?_, fun hge3 => ?_⟩
            · have hk' : kk < 16 := by omega
              obtain ⟨inf, hinf⟩ := Option.isSome_iff_exists.1 (show (pg.info? 27).isSome = true from by kernel_rfl)
              have hes : (pg.info? 27).map (·.size) = some 5 := by kernel_rfl
              rw [hinf] at hes
              simp only [Option.map_some, Option.some.injEq] at hes
              refine idx_ok (m := 16) (e := 27) (inf := inf) Try.underlying30 (fun w => run_isAgg Try.underlying27 w) hinf hk' ?_
              rw [hes, arr_at pcO_len (by omega)]
              have hWk : W[kk]'(by omega) = fnd S (64 * (kk : Int)) := by simp [← hW]
              rw [hWk]
              have hvals : (fnd C (64 * (kk : Int))).map vals = (fnd S (64 * (kk : Int))).map vals := by
                apply Option.ext
                intro c
                rw [val_iff okC (by omega), val_iff ok (by omega), ← hhas]
                unfold Has
                constructor
                · rintro ⟨x, hx, h6⟩
                  rcases (hC x).1 hx with h7 | h7
                  · exact .inl ⟨x, h7, h6⟩
                  · exact .inr ⟨x, h7, h6⟩
                · rintro (⟨x, hx, h6⟩ | ⟨x, hx, h6⟩)
                  · exact ⟨x, (hC x).2 (.inl hx), h6⟩
                  · exact ⟨x, (hC x).2 (.inr hx), h6⟩
              have hge0 : (0 : Int) ≤ 64 * (kk : Int) := by omega
              have nxt : ∀ (A B : HP) w, D w0 (A :: B :: Rg b 1024 200 C :: Rw 27 5 (.slice qi I.length ci) I.length (I.flatMap pc) :: cel ba 30 (W.flatMap pcO) :: L) w →
                  (∃ (k' : Nat) (u5 : Value), [u4, .int .i64 (IntKind.i64.wrap ((kk : Int) + 1))] = [u5, Value.int .i64 k'] ∧ k' ≤ 16 ∧ D w0 (Rg b 1024 200 C :: Rw 27 5 (.slice qi I.length ci) I.length (I.flatMap pc) :: cel ba 30 (W.flatMap pcO) :: L) w) ∧ 16 - (IntKind.i64.wrap ((kk : Int) + 1)).toNat < 16 - kk := fun A B w d => by
                rw [w64 (by omega) (by omega)]
                exact ⟨⟨kk + 1, u4, by simp, by omega, d.tail.tail⟩, by omega⟩
              have e64 : IntKind.i64.wrap (64 * (kk : Int)) = 64 * (kk : Int) := w64 (by omega) (by omega)
              refine d_new _ d fun bn w d => ?_
              generalize bn = b1 at d ⊢
              cases hfS : fnd S (64 * (kk : Int)) with
              | none =>
                have hfC : fnd C (64 * (kk : Int)) = none := by
                  rw [hfS] at hvals
                  simpa using hvals
                simp only [pcO]
                repeat (first | (simp +decide only [SEM]) | (apply swm d; (focus ((repeat (first | exact .h _ | apply Rp.t)); done)); (focus rfl); (focus rfl); (focus exact ones rfl); intro w d; simp only [SPL] at d))
                rw [e64]
                refine fn20 (fun _ _ => rfl) (Find_ok ⟨by omega, by omega⟩ (by omega) hvC (D.sel [1] d) fun w d => ?_)
                rw [hfC]
                simp only [pcO, Option.isSome_none]
                repeat (first | (simp +decide only [SEM]) | (apply ldm d; (focus ((repeat (first | exact .h _ | refine .t _ _ ?_)); done)); (focus rfl)) | (refine d_new _ d fun bn w d => ?_) | (apply swm d; (focus ((repeat (first | exact .h _ | apply Rp.t)); done)); (focus rfl); (focus rfl); (focus exact ones rfl); intro w d; simp only [SPL] at d))
                exact nxt _ _ w (D.sel [0, 2, 1] d)
              | some x =>
                obtain ⟨y, hfC, hvy⟩ : ∃ y, fnd C (64 * (kk : Int)) = some y ∧ vals y = vals x := by
                  rw [hfS, Option.map_some] at hvals
                  exact Option.map_eq_some_iff.1 hvals
                have hx1 := (fnd_some ok hge0).1 hfS
                have hy1 := (fnd_some okC hge0).1 hfC
                have hx2 := ok.all x hx1.1
                have hy2 := okC.all y hy1.1
                have e1 : y.v = x.v := congrArg (fun c => c.1) hvy
                have e2 : y.p = x.p := congrArg (fun c => c.2.1) hvy
                have e3 : y.f - y.a = x.f - x.a := congrArg (fun c => c.2.2) hvy
                have := hx2.n0; have := hx2.f0; have := hx2.fa; have := hx2.a0; have := hx2.en
                have := hy2.n0; have := hy2.f0; have := hy2.fa; have := hy2.a0; have := hy2.en
                have hn : decide (0 < x.n) = true := decide_eq_true (by omega)
                have hpx : pc x = [.int .i64 x.a, .int .i64 x.n, .int .i64 x.v, .int .i64 x.f, .int .i64 x.p] := rfl
                have hpy : pc y = [.int .i64 y.a, .int .i64 y.n, .int .i64 y.v, .int .i64 y.f, .int .i64 y.p] := rfl
                simp only [pcO, hpx]
                repeat (first | (simp +decide only [SEM]) | (apply swm d; (focus ((repeat (first | exact .h _ | apply Rp.t)); done)); (focus rfl); (focus rfl); (focus exact ones rfl); intro w d; simp only [SPL] at d))
                rw [e64]
                refine fn20 (fun _ _ => rfl) (Find_ok ⟨by omega, by omega⟩ (by omega) hvC (D.sel [1] d) fun w d => ?_)
                rw [hfC]
                simp only [pcO, hpy, Option.isSome_some]
                repeat (first | (simp +decide only [SEM]) | (apply ldm d; (focus ((repeat (first | exact .h _ | refine .t _ _ ?_)); done)); (focus rfl)) | (refine d_new _ d fun bn w d => ?_) | (apply swm d; (focus ((repeat (first | exact .h _ | apply Rp.t)); done)); (focus rfl); (focus rfl); (focus exact ones rfl); intro w d; simp only [SPL] at d))
                rw [hn]
                repeat (first | (simp +decide only [SEM]) | (apply ldm d; (focus ((repeat (first | exact .h _ | refine .t _ _ ?_)); done)); (focus rfl)))
                refine ⟨fun _ => ?_, fun h => absurd e1.symm h⟩
                repeat (first | (simp +decide only [SEM]) | (apply ldm d; (focus ((repeat (first | exact .h _ | refine .t _ _ ?_)); done)); (focus rfl)))
                refine ⟨fun _ => ?_, fun h => absurd e2.symm h⟩
                repeat (first | (simp +decide only [SEM]) | (apply ldm d; (focus ((repeat (first | exact .h _ | refine .t _ _ ?_)); done)); (focus rfl)))
                rw [w64 (n := x.f - x.a) (by omega) (by omega), w64 (n := y.f - y.a) (by omega) (by omega)]
                refine ⟨fun h => absurd e3.symm h, fun _ => ?_⟩
                exact nxt _ _ w (D.sel [0, 2, 1] d)
            · refine fn10 (fun _ _ => rfl) (Mapped_ok d fun w d => ?_)
              have hCs2 : (C.map (·.n)).sum = sumN C := rfl
              rw [hCs2]
              repeat (simp +decide only [SEM])
              refine ⟨fun _ => fn00 (fun _ _ => rfl) (aw w d.tail.tail.tail), fun h => by omega⟩
      · have := outs_len at_ m S
        exfalso; omega
theorem back_law {n : Nat} {at_ m : Int} (h : OldSl pg w0 27 5 lv n) (hat : I64 at_) (hm0 : I64 m) (hm : Old w0 ∈ L) (d : D w0 L w) (k : ∀ w', D w0 L w' → K (.bool true) w') :
    Cl pg 3 #[lv, .int .i64 at_, .int .i64 m] K w := by
  obtain ⟨l, hl, hop, ho, hn⟩ := pieces_of h
  exact back_ok hat hm0 (by omega) hop ho hm d k
end
end Go.Proofs.Ytplllehpaimpiaa
