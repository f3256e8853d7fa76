/- Waits: the reference's own: who is late; the comparison. -/
import Derived.Test.YthjkmgckkacegaaWm
set_option maxRecDepth 100000
set_option maxHeartbeats 8000000
namespace Go.Proofs.Ythjkmgckkacegaa
open Go Go.Jac
/-- The best of those that were looked at. -/
def Best (now : Int) (C : List Wt) (n : Nat) (b : Int) : Prop :=
  (b = -1 ∧ ∀ j (h : j < C.length), j < n → now < C[j].dl) ∨ ∃ q : Nat, ∃ h : q < C.length, b = q ∧ C[q].dl ≤ now ∧ ∀ j (h : j < C.length), j < n → C[j].dl ≤ now → wle C[q] C[j]
theorem wle_trans {a b c : Wt} (h1 : wle a b) (h2 : wle b c) : wle a c := by unfold wle at *; omega
theorem wle_refl (a : Wt) : wle a a := by unfold wle; omega
theorem best_keep {now : Int} {C : List Wt} {n : Nat} {b : Int} (hn : n < C.length) (h : Best now C n b) (h2 : now < C[n].dl ∨ ∃ q : Nat, ∃ h : q < C.length, b = q ∧ wle C[q] C[n]) : Best now C (n + 1) b := by
  rcases h with ⟨hb, h⟩ | ⟨q, hq, hb, hl, h⟩
  · refine .inl ⟨hb, fun j hj hjn => ?_⟩
    rcases Nat.lt_or_eq_of_le (Nat.le_of_lt_succ hjn) with h3 | h3
    · exact h j hj h3
    · subst h3
      rcases h2 with h2 | ⟨q, hq, hb2, _⟩
      · exact h2
      · omega
  · refine .inr ⟨q, hq, hb, hl, fun j hj hjn hjl => ?_⟩
    rcases Nat.lt_or_eq_of_le (Nat.le_of_lt_succ hjn) with h3 | h3
    · exact h j hj h3 hjl
    · subst h3
      rcases h2 with h2 | ⟨q2, hq2, hb2, hw⟩
      · omega
      · have : q2 = q := by omega
        subst this
        exact hw
theorem best_new {now : Int} {C : List Wt} {n : Nat} {b : Int} (hn : n < C.length) (h : Best now C n b) (hl : C[n].dl ≤ now) (h2 : b < 0 ∨ ∃ q : Nat, ∃ h : q < C.length, b = q ∧ wle C[n] C[q]) : Best now C (n + 1) n := by
  refine .inr ⟨n, hn, rfl, hl, fun j hj hjn hjl => ?_⟩
  rcases Nat.lt_or_eq_of_le (Nat.le_of_lt_succ hjn) with h3 | h3
  · rcases h with ⟨hb, h⟩ | ⟨q, hq, hb, hlq, h⟩
    · have := h j hj h3
      omega
    · rcases h2 with h2 | ⟨q2, hq2, hb2, hw⟩
      · omega
      · have : q2 = q := by omega
        subst this
        exact wle_trans hw (h j hj h3 hjl)
  · subst h3; exact wle_refl _
theorem rmT_perm {x : Wt} {C : List Wt} (hn : (C.map (·.th)).Nodup) (hx : x ∈ C) : C.Perm (x :: rmT x.th C) := by
  induction C with
  | nil => cases hx
  | cons y r ih =>
    rw [List.map_cons, List.nodup_cons] at hn
    rcases List.mem_cons.1 hx with h | h
    · subst h
      have e : rmT x.th (x :: r) = r := by
        unfold rmT
        rw [List.filter_cons_of_neg (by simp)]
        refine List.filter_eq_self.2 fun z hz => ?_
        simp only [decide_eq_true_eq]
        exact fun e => hn.1 (List.mem_map.2 ⟨z, hz, e⟩)
      rw [e]
    · have hne : y.th ≠ x.th := fun e => hn.1 (List.mem_map.2 ⟨x, h, e.symm⟩)
      have e : rmT x.th (y :: r) = y :: rmT x.th r := by
        unfold rmT
        rw [List.filter_cons_of_pos (by simpa using hne)]
      rw [e]
      exact ((ih hn.2 h).cons y).trans (List.Perm.swap x y _)
/-- Who was told, and who waits still. -/
structure Exq (now : Int) (X R C : List Wt) : Prop where
  perm : (R ++ C).Perm X
  late : ∀ x ∈ R, x.dl ≤ now
  sort : R.Pairwise wle
  ahead : ∀ x ∈ R, ∀ y ∈ C, y.dl ≤ now → wle x y
  rest : C = rmAll (R.map lateW) X
theorem Exq.nd {now : Int} {X R C : List Wt} (h : Exq now X R C) (hn : (X.map (·.th)).Nodup) : (C.map (·.th)).Nodup := by
  have := (h.perm.map (·.th)).nodup_iff.2 hn
  rw [List.map_append, List.nodup_append] at this
  exact this.2.1
theorem Exq.step {now : Int} {X R C : List Wt} {q : Nat} (h : Exq now X R C) (hn : (X.map (·.th)).Nodup) (hq : q < C.length) (hl : C[q].dl ≤ now) (hb : ∀ j (h : j < C.length), C[j].dl ≤ now → wle C[q] C[j]) : Exq now X (R ++ [C[q]]) (rmT C[q].th C) := by
  have hp := rmT_perm (h.nd hn) (List.getElem_mem hq)
  refine ⟨?_, fun x hx => ?_, ?_, fun x hx y hy hyl => ?_, ?_⟩
  · rw [List.append_assoc]
    exact (hp.symm.append_left R).trans h.perm
  · rcases List.mem_append.1 hx with hx | hx
    · exact h.late x hx
    · rw [List.mem_singleton.1 hx]; exact hl
  · rw [List.pairwise_append]
    refine ⟨h.sort, List.pairwise_singleton _ _, fun x hx y hy => ?_⟩
    rw [List.mem_singleton.1 hy]
    exact h.ahead x hx _ (List.getElem_mem hq) hl
  · have hyC : y ∈ C := (List.mem_filter.1 hy).1
    rcases List.mem_append.1 hx with hx | hx
    · exact h.ahead x hx y hyC hyl
    · rw [List.mem_singleton.1 hx]
      obtain ⟨j, hj, rfl⟩ := List.getElem_of_mem hyC
      exact hb j hj hyl
  · have key : ∀ y : Wt, rmT y.th C = rmAll ((R ++ [y]).map lateW) X := fun y => by
      have := rmAll_snoc (R.map lateW) (lateW y) X
      rw [← h.rest] at this
      rw [List.map_append]
      exact this.symm
    exact key _
theorem Exq.end_ {now : Int} {X R C : List Wt} (h : Exq now X R C) (hb : ∀ x ∈ C, now < x.dl) : lateP now X R := by
  refine ⟨?_, h.sort⟩
  have := h.perm.filter (fun x => !decide (now < x.dl))
  rw [List.filter_append, List.filter_eq_self.2 fun x hx => by have := h.late x hx; simp; omega, List.filter_eq_nil_iff.2 fun x hx => by have := hb x hx; simp; omega, List.append_nil] at this
  exact this
section
variable {w0 w : World} {L : List HP} {K : Value → WP} {b : Nat} {most : Int} {X : List Wt} {sv v lv : Value} {it : List It}
theorem RExpire_ok {now : Int} (hX : X.length ≤ 65536) (hn : (X.map (·.th)).Nodup) (hO : Ois w0 X) (d : D w0 (Xs b most X :: L) w)
    (k : ∀ (R : List Wt) lv w', lateP now X R → D w0 (Rw 95 4 lv (R.map lateW).length ((R.map lateW).flatMap kc) :: Xs b most (rmAll (R.map lateW) X) :: L) w' → K lv w') :
    Cl pg 23 #[.pointer (some ⟨b, 0, none⟩), .int .i64 now] K w := by
  refine V.jacinthref16_Waits_Expire_ok ?_
  unfold V.jacinthref16_Waits_Expire
  refine ⟨fun vs w' => ∃ (R C : List Wt) (u lv : Value), vs = [u, lv] ∧ Exq now X R C ∧ (∃ q c, lv = .slice q (R.map lateW).length c) ∧ D w0 (Rw 95 4 lv (R.map lateW).length ((R.map lateW).flatMap kc) :: Xs b most C :: L) w', fun vs _ => match vs with | [_, .slice _ n _] => X.length - n | _ => 0, ⟨[], X, _, _, rfl, ⟨by simp, by simp, List.Pairwise.nil, by simp, rfl⟩, ⟨none, 0, rfl⟩, ⟨Rw.nil _ _ d.1, d.2⟩⟩, ?_⟩
  clear d
  rintro _ w ⟨R, C, u, _, rfl, hE, ⟨ql, cl, rfl⟩, d⟩ _
  simp only [UN]
  have hlen : R.length + C.length = X.length := by have := hE.perm.length_eq; rwa [List.length_append] at this
  have hCO : Ois w0 C := by rw [hE.rest]; exact rmAll_ois _ hO
  obtain ⟨v, d⟩ := Xs.out d.swap
  obtain ⟨q, c, rfl, -⟩ := Rw.shape d.swap.1
  refine ⟨fun vs w' => ∃ (bb : Int) (i : Nat), vs = [.int .i64 bb, .int .i64 i] ∧ i ≤ C.length ∧ Best now C i bb ∧ D w0 (cel b 62 [.slice q C.length c, .int .i64 most] :: Rw 71 3 (.slice q C.length c) C.length (C.flatMap wc) :: Rw 95 4 (.slice ql (R.map lateW).length cl) (R.map lateW).length ((R.map lateW).flatMap kc) :: L) w', fun vs _ => match vs with | [_, .int _ i] => C.length - i.toNat | _ => 0, ⟨-1, 0, rfl, by omega, .inl ⟨rfl, fun j _ h => by omega⟩, D.sel [0, 1] d⟩, ?_⟩
  clear d
  rintro _ w ⟨bb, i, rfl, hi, hB, d⟩ _
  simp only [UN]
  repeat (first | (simp +decide only [SEM]) | (apply ldm d; (focus ((repeat (first | exact .h _ | refine .t _ _ ?_)); done)); (focus rfl)))
  refine ⟨fun hlt => ?_, fun hge => ?_⟩
  · have hlt' : i < C.length := by omega
    have hone := wc_one (hCO.one _ (List.getElem_mem hlt'))
    repeat (first | (apply ldm d; (focus ((repeat (first | exact .h _ | refine .t _ _ ?_)); done)); (focus rfl)) | (refine d_new _ d fun bn w d => ?_) | (focus (apply rw_elN d; (focus ((repeat (first | exact .h _ | refine .t _ _ ?_)); done)); (focus exact fun _ => rfl); rotate_left; (focus (first | omega | (simp; done) | (simp; omega))))))
    generalize bn = bx at d ⊢
    refine stw0 d rfl rfl (by simp only [cells_agg]; exact hone) fun w d => ?_
    simp only [cells_agg, List.toList_toArray] at d
    have keep : ∀ w, Best now C (i + 1) bb → D w0 (cel bx 71 (wc C[i]) :: cel b 62 [.slice q C.length c, .int .i64 most] :: Rw 71 3 (.slice q C.length c) C.length (C.flatMap wc) :: Rw 95 4 (.slice ql (R.map lateW).length cl) (R.map lateW).length ((R.map lateW).flatMap kc) :: L) w →
        (∃ (b' : Int) (i' : Nat), [.int .i64 bb, .int .i64 ((i : Int) + 1)] = [.int .i64 b', Value.int .i64 i'] ∧ i' ≤ C.length ∧ Best now C i' b' ∧ D w0 (cel b 62 [.slice q C.length c, .int .i64 most] :: Rw 71 3 (.slice q C.length c) C.length (C.flatMap wc) :: Rw 95 4 (.slice ql (R.map lateW).length cl) (R.map lateW).length ((R.map lateW).flatMap kc) :: L) w) ∧ C.length - ((i : Int) + 1).toNat < C.length - i := fun w hb d =>
      ⟨⟨bb, i + 1, by simp, by omega, hb, d.tail⟩, by omega⟩
    have new : ∀ w, Best now C (i + 1) i → D w0 (cel bx 71 (wc C[i]) :: cel b 62 [.slice q C.length c, .int .i64 most] :: Rw 71 3 (.slice q C.length c) C.length (C.flatMap wc) :: Rw 95 4 (.slice ql (R.map lateW).length cl) (R.map lateW).length ((R.map lateW).flatMap kc) :: L) w →
        (∃ (b' : Int) (i' : Nat), [.int .i64 (i : Int), .int .i64 ((i : Int) + 1)] = [.int .i64 b', Value.int .i64 i'] ∧ i' ≤ C.length ∧ Best now C i' b' ∧ D w0 (cel b 62 [.slice q C.length c, .int .i64 most] :: Rw 71 3 (.slice q C.length c) C.length (C.flatMap wc) :: Rw 95 4 (.slice ql (R.map lateW).length cl) (R.map lateW).length ((R.map lateW).flatMap kc) :: L) w) ∧ C.length - ((i : Int) + 1).toNat < C.length - i := fun w hb d =>
      ⟨⟨i, i + 1, by simp, by omega, hb, d.tail⟩, by omega⟩
    simp only [wc] at d keep new
    repeat (first | refine drw d fun w d => ?_ | (simp +decide only [SEM]) | refine qt d ?_ | refine qe_nil ?_ | (apply qlm; (focus ((repeat (first | exact .h _ | refine .t _ _ ?_)); done)); (focus rfl)))
    refine ⟨fun h1 => ?_, fun h1 => ?_⟩
    · rcases hB with ⟨rfl, hb⟩ | ⟨p, hp, rfl, hpl, hb⟩
      · repeat (first | (simp +decide only [SEM]) | refine qt d ?_)
        rw [w64 (by omega) (by omega)]
        exact new w (best_new hlt' (.inl ⟨rfl, hb⟩) h1 (.inl (by omega))) d
      · repeat (first | (simp +decide only [SEM]) | refine qt d ?_)
        obtain ⟨b1, c1, e⟩ := rw_ptr d (.t _ _ (.t _ _ (.h _))) (by omega)
        cases e
        refine ⟨fun _ => ?_, fun h2 => by omega⟩
        repeat (first | (simp +decide only [SEM]) | refine qt d ?_ | refine qe_nil ?_ | (apply qlm; (focus ((repeat (first | exact .h _ | refine .t _ _ ?_)); done)); (focus rfl)) | refine qia (by first | omega | (simp; omega)) ?_ | (focus (apply ql1; (focus ((repeat (first | exact .h _ | refine .t _ _ ?_)); done)); (focus exact fun _ => rfl); (focus rfl); rotate_left; (focus (first | omega | (simp; done) | (simp; omega))))))
        refine ⟨fun h2 => ?_, fun h2 => ?_⟩
        · repeat (first | (simp +decide only [SEM]) | refine qt d ?_ | refine qe_nil ?_ | (apply qlm; (focus ((repeat (first | exact .h _ | refine .t _ _ ?_)); done)); (focus rfl)) | refine qia (by first | omega | (simp; omega)) ?_ | (focus (apply ql1; (focus ((repeat (first | exact .h _ | refine .t _ _ ?_)); done)); (focus exact fun _ => rfl); (focus rfl); rotate_left; (focus (first | omega | (simp; done) | (simp; omega))))))
          refine ⟨fun h3 => ?_, fun h3 => ?_⟩
          · repeat (first | (simp +decide only [SEM]) | refine qe_nil ?_ | (apply qlm; (focus ((repeat (first | exact .h _ | refine .t _ _ ?_)); done)); (focus rfl)) | refine qia (by first | omega | (simp; omega)) ?_ | (focus (apply ql0; (focus ((repeat (first | exact .h _ | refine .t _ _ ?_)); done)); (focus exact fun _ => rfl); (focus rfl); rotate_left; (focus (first | omega | (simp; done) | (simp; omega))))))
            refine ⟨fun h4 => ?_, fun h4 => ?_⟩
            · rw [w64 (by omega) (by omega)]
              exact new w (best_new hlt' (.inr ⟨p, hp, rfl, hpl, hb⟩) h1 (.inr ⟨p, hp, rfl, by unfold wle; omega⟩)) d
            · rw [w64 (by omega) (by omega)]
              exact keep w (best_keep hlt' (.inr ⟨p, hp, rfl, hpl, hb⟩) (.inr ⟨p, hp, rfl, by unfold wle; omega⟩)) d
          · rw [w64 (by omega) (by omega)]
            exact keep w (best_keep hlt' (.inr ⟨p, hp, rfl, hpl, hb⟩) (.inr ⟨p, hp, rfl, by unfold wle; omega⟩)) d
        · repeat (first | (simp +decide only [SEM]) | refine qt d ?_)
          rw [w64 (by omega) (by omega)]
          exact new w (best_new hlt' (.inr ⟨p, hp, rfl, hpl, hb⟩) h1 (.inr ⟨p, hp, rfl, by unfold wle; omega⟩)) d
    · repeat (first | (simp +decide only [SEM]) | refine qt d ?_)
      rw [w64 (by omega) (by omega)]
      exact keep w (best_keep hlt' hB (.inl (by omega))) d
  · have hi' : i = C.length := by omega
    subst hi'
    have hrl : (R.map lateW).length = R.length := List.length_map _
    rcases hB with ⟨rfl, hb⟩ | ⟨p, hp, rfl, hpl, hb⟩
    · refine ⟨fun _ => ?_, fun h => by omega⟩
      refine k R _ _ (hE.end_ fun x hx => ?_) ?_
      · obtain ⟨j, hj, rfl⟩ := List.getElem_of_mem hx
        exact hb j hj hj
      · rw [← hE.rest]
        exact D.swap (Xs.mk (D.sel [0, 1] d))
    · refine ⟨fun h => by omega, fun _ => ?_⟩
      repeat (first | (apply ldm d; (focus ((repeat (first | exact .h _ | refine .t _ _ ?_)); done)); (focus rfl)) | (((repeat (refine bld_c rfl rfl (by simp) ?_; simp only [List.set_cons_zero, List.set_cons_succ])); refine bld_n ?_)) | refine bsl1 (by first | rfl | (simp only [cells_agg, cells_int, cells_bool, cells_ptr, cells_sl, cells_map, cells_fn, List.drop_succ_cons, List.drop_zero, List.take_succ_cons, List.take_zero, Nat.zero_add, Nat.reduceAdd, Int.toNat_natCast, Int.toNat_zero]; rfl)) rfl d (by decide) (by decide) fun bn w d => ?_ | (focus (apply rw_fld d; (focus ((repeat (first | exact .h _ | refine .t _ _ ?_)); done)); (focus exact fun _ => rfl); (focus rfl); rotate_left; (focus (first | omega | (simp; done) | (simp; omega))))))
      refine d_app (m := 1) (D.sel [3] d) (src_of (gc1 (D.sel [3] d)) rfl (ones rfl) 1) rfl (by omega) (by omega) (by omega) (ones rfl) fun lv' w d => ?_
      obtain ⟨q4, c4, rfl, -⟩ := Rw.shape d.1
      repeat (first | (simp +decide only [SEM]) | (apply ldm d; (focus ((repeat (first | exact .h _ | refine .t _ _ ?_)); done)); (focus rfl)) | (focus (apply rw_fld d; (focus ((repeat (first | exact .h _ | refine .t _ _ ?_)); done)); (focus exact fun _ => rfl); (focus rfl); rotate_left; (focus (first | omega | (simp; done) | (simp; omega))))))
      refine fn20 (fun _ _ => rfl) (RDrop_ok (by omega) hCO.one (Xs.mk (D.sel [2, 3] d)) fun w d => ?_)
      have e1 : ((R ++ [C[p]]).map lateW).length = (R.map lateW).length + 1 := by simp
      refine ⟨⟨R ++ [C[p]], rmT C[p].th C, u, _, rfl, hE.step hn hp hpl fun j hj h => hb j hj hj h, ⟨q4, c4, by rw [e1]⟩, ?_⟩, by show X.length - ((R.map lateW).length + 1) < X.length - (R.map lateW).length; omega⟩
      rw [e1, List.map_append, List.flatMap_append, List.map_singleton, List.flatMap_singleton]
      exact (D.sel [2, 1, 0] d).tail
theorem same_ok {l : List Wk} {av bv : Value} (hl : l.length ≤ 65536) (d : D w0 (Rw 38 4 av l.length (l.flatMap kc) :: Rw 95 4 bv l.length (l.flatMap kc) :: L) w)
    (k : ∀ w', D w0 (Rw 38 4 av l.length (l.flatMap kc) :: Rw 95 4 bv l.length (l.flatMap kc) :: L) w' → K (.bool true) w') : Cl pg 21 #[av, bv] K w := by
  refine V.jacinthlaw16_same_ok ?_
  unfold V.jacinthlaw16_same
  obtain ⟨q1, c1, rfl, -⟩ := Rw.shape d.1
  obtain ⟨q2, c2, rfl, -⟩ := Rw.shape d.swap.1
  repeat (simp +decide only [SEM])
  refine ⟨fun vs w => ∃ (i : Nat) (u : Value), vs = [u, .int .i64 i] ∧ i ≤ l.length ∧ D w0 (Rw 38 4 (.slice q1 l.length c1) l.length (l.flatMap kc) :: Rw 95 4 (.slice q2 l.length c2) l.length (l.flatMap kc) :: L) w, fun vs _ => match vs with | [_, .int _ i] => l.length - i.toNat | _ => 0, ⟨0, _, rfl, by omega, d⟩, ?_⟩
  clear d
  rintro _ w ⟨i, u, rfl, hi, d⟩ _
  simp only [UN]
  repeat (simp +decide only [SEM])
  refine ⟨fun hlt => ?_, fun hge => k _ d⟩
  have hlt' : i < l.length := by omega
  obtain ⟨b1, cap, cs, e, -, -⟩ := rec_at (i := (i : Int)) kc_len d (by omega) (by omega)
  cases e
  obtain ⟨b2, cap2, cs2, e, -, -⟩ := rec_at (i := (i : Int)) kc_len d.swap (by omega) (by omega)
  cases e
  repeat (first | refine drw d fun w d => ?_ | (simp +decide only [SEM]) | refine qt d ?_ | refine qe_nil ?_ | refine qia (by first | omega | (simp; omega)) ?_ | (focus (apply ql1; (focus ((repeat (first | exact .h _ | refine .t _ _ ?_)); done)); (focus exact fun _ => rfl); (focus rfl); rotate_left; (focus (first | omega | (simp; done) | (simp; omega))))) | (focus (apply ql0; (focus ((repeat (first | exact .h _ | refine .t _ _ ?_)); done)); (focus exact fun _ => rfl); (focus rfl); rotate_left; (focus (first | omega | (simp; done) | (simp; omega))))))
  rw [w64 (by omega) (by omega)]
  exact ⟨⟨i + 1, u, by simp, by omega, d⟩, by omega⟩
end
end Go.Proofs.Ythjkmgckkacegaa
