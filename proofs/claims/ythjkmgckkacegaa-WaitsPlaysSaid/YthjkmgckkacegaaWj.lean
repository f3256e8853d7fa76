/- Waits: what a script is; who lives, as a map; the threads. -/
import Derived.Test.YthjkmgckkacegaaWh
set_option maxRecDepth 100000
set_option maxHeartbeats 4000000
namespace Go.Proofs.Ythjkmgckkacegaa
open Go Go.Jac
/-- One step of a script. -/
structure Stp where
  kd : Int
  th : Int
  ob : Int
  n : Int
  iv : Value
  it : List It
def oc (x : Stp) : List Value := [.int .i64 x.kd, .int .i64 x.th, .int .i64 x.ob, .int .i64 x.n, x.iv]
theorem oc_len (x : Stp) : (oc x).length = 5 := rfl
theorem steps_of {w0 : World} {lv : Value} {n : Nat} (h : OldSl pg w0 53 5 lv n) : ∃ l : List Stp, l.length = n ∧ (∀ x ∈ l, I64 x.n ∧ I64 x.ob ∧ OldL w0 2 ic x.iv x.it) ∧ OldL w0 5 oc lv l ∧ n ≤ maxLen := by
  refine h.list fun vs hv => ?_
  obtain ⟨x0, x1, x2, x3, x4, rfl, h0, h1, h2, h3, h4⟩ := rd53 hv
  obtain ⟨m, hm⟩ := osl_of (es := 2) Try.underlying22 (by kernel_rfl) h4
  obtain ⟨l, -, -, ho, -⟩ := its_of hm
  exact ⟨⟨x0, x1, x2, x3, x4, l⟩, rfl, I64.of_wf h3, I64.of_wf h2, ho⟩
/-- A map of those who live. -/
def mapV (val : Wt → Value) (T : List Wt) : Int → Option Value := fun k => (T.find? fun x => decide (x.th = k)).map val
theorem mapV_snoc {val : Wt → Value} {T : List Wt} {x : Wt} {v : Value} (h : ∀ y ∈ T, y.th ≠ x.th) : upd (mapV val T) x.th v = mapV (fun y => if y.th = x.th then v else val y) (T ++ [x]) := by
  funext k
  unfold upd mapV
  rw [List.find?_append]
  by_cases e : k = x.th
  · rw [if_pos e]
    have : (T.find? fun y => decide (y.th = k)) = none := List.find?_eq_none.2 fun y hy => by simpa using fun h2 : y.th = k => h y hy (h2.trans e)
    rw [this]
    simp [e]
  · rw [if_neg e]
    have : [x].find? (fun y => decide (y.th = k)) = none := List.find?_eq_none.2 fun y hy => by rw [List.mem_singleton.1 hy]; simpa using fun h2 : x.th = k => e h2.symm
    rw [this, Option.or_none]
    cases hf : T.find? (fun y => decide (y.th = k)) with
    | none => rfl
    | some y =>
      have hy := List.find?_some hf
      simp only [Option.map_some]
      rw [if_neg fun h2 => e (by rw [← h2]; exact (by simpa using hy : y.th = k).symm)]
theorem mapV_of {val : Wt → Value} {T : List Wt} {x : Wt} (hn : (T.map (·.th)).Nodup) (hx : x ∈ T) : mapV val T x.th = some (val x) := by
  unfold mapV
  induction T with
  | nil => cases hx
  | cons y r ih =>
    rw [List.map_cons, List.nodup_cons] at hn
    rw [List.find?_cons]
    rcases List.mem_cons.1 hx with rfl | hx
    · simp
    · have : y.th ≠ x.th := fun e => hn.1 (List.mem_map.2 ⟨x, hx, e.symm⟩)
      simp only [this, decide_false]
      exact ih hn.2 hx
theorem mapV_none {val : Wt → Value} {T : List Wt} {k : Int} (h : ∀ y ∈ T, y.th ≠ k) : mapV val T k = none := by
  unfold mapV
  rw [List.find?_eq_none.2 fun y hy => by simpa using h y hy]; rfl
/-- Some taken out. -/
def delV (g : Int → Option Value) (R : List Wk) : Int → Option Value := fun k => if k ∈ R.map (·.th) then none else g k
theorem delV_nil (g : Int → Option Value) : delV g [] = g := by funext k; simp [delV]
theorem delV_snoc {g : Int → Option Value} {R : List Wk} {x : Wk} : Jac.del (delV g R) x.th = delV g (R ++ [x]) := by
  funext k
  unfold Jac.del delV
  by_cases e : k = x.th
  · simp [e]
  · simp [e]
theorem delV_all {val : Wt → Value} {T : List Wt} {R : List Wk} (hn : (T.map (·.th)).Nodup) : delV (mapV val T) R = mapV val (drAll R T) := by
  rw [drAll_filter R hn]
  funext k
  unfold delV mapV
  rw [List.find?_filter]
  by_cases hk : k ∈ R.map (·.th)
  · rw [if_pos hk]
    rw [List.find?_eq_none.2 fun y hy => ?_]
    · rfl
    · simp only [Bool.and_eq_true, decide_eq_true_eq, not_and]
      exact fun h1 h2 => h1 (h2 ▸ hk)
  · rw [if_neg hk]
    congr 1
    congr 1
    funext y
    by_cases e : y.th = k
    · simp [e, hk]
    · simp [e]
/-- Who is told: each of those who wait, once. -/
structure Told (S : List Wt) (R : List Wk) (C : Wt → Wk → Prop) : Prop where
  mem : ∀ r ∈ R, ∃ x ∈ S, x.th = r.th ∧ C x r
  nd : (R.map (·.th)).Nodup
theorem Told.nil {S : List Wt} {C : Wt → Wk → Prop} : Told S [] C := ⟨by simp, by simp⟩
theorem Told.len {S : List Wt} {R : List Wk} {C : Wt → Wk → Prop} (h : Told S R C) (hn : (S.map (·.th)).Nodup) : (drAll R S).length = S.length - R.length ∧ R.length ≤ S.length := by
  have key : ∀ (R : List Wk) (S : List Wt), (S.map (·.th)).Nodup → (∀ r ∈ R, ∃ x ∈ S, x.th = r.th) → (R.map (·.th)).Nodup → (drAll R S).length + R.length = S.length := by
    intro R
    induction R with
    | nil => intro S _ _ _; rfl
    | cons r R ih =>
      intro S hn hm hd
      rw [List.map_cons, List.nodup_cons] at hd
      obtain ⟨x, hx, hxr⟩ := hm r (by simp)
      have h1 := ih (drS r.th S) (by rw [drS_filter hn]; exact nodup_filter hn) (fun r' hr' => by
        obtain ⟨y, hy, hyr⟩ := hm r' (by simp [hr'])
        refine ⟨y, ?_, hyr⟩
        rw [drS_filter hn]
        refine List.mem_filter.2 ⟨hy, ?_⟩
        simp only [decide_eq_true_eq, ne_eq]
        exact fun e => hd.1 (List.mem_map.2 ⟨r', hr', by rw [← hyr, e]⟩)) hd.2
      have h2 : (drS r.th S).length + 1 = S.length := by
        unfold drS
        rw [List.length_eraseP_of_mem hx (by simpa using hxr)]
        have := List.length_pos_of_mem hx
        omega
      show (drAll R (drS r.th S)).length + (R.length + 1) = S.length
      omega
  have := key R S hn (fun r hr => by obtain ⟨x, hx, hxr, _⟩ := h.mem r hr; exact ⟨x, hx, hxr⟩) h.nd
  omega
theorem told_ons {o st sh : Int} {p : It → Bool} {S : List Wt} (hn : (S.map (·.th)).Nodup) : Told S (telS o p st sh S) fun x r => 0 ≤ r.it ∧ ∃ h : r.it.toNat < x.it.length, (x.it[r.it.toNat]).o = o ∧ p x.it[r.it.toNat] = true := by
  constructor
  · intro r hr
    unfold telS ons at hr
    obtain ⟨⟨x, i⟩, hxi, rfl⟩ := List.mem_map.1 hr
    obtain ⟨y, hy, hyi⟩ := List.mem_filterMap.1 hxi
    obtain ⟨j, hj, hji⟩ := Option.map_eq_some_iff.1 hyi
    cases hji
    unfold hitI at hj
    obtain ⟨hlt, hp⟩ := List.findIdx?_eq_some_iff_getElem.1 hj
    simp only [Bool.and_eq_true, decide_eq_true_eq] at hp
    exact ⟨x, hy, rfl, by simp [toWk], by simpa [toWk] using hlt, by simpa [toWk] using hp.1.1, by simpa [toWk] using hp.1.2⟩
  · have hsub : ((telS o p st sh S).map (·.th)).Sublist (S.map (·.th)) := by
      clear hn
      induction S with
      | nil => exact List.Sublist.refl _
      | cons x r ih =>
        rw [show x :: r = [x] ++ r from rfl, telS_app, List.map_append, List.map_append]
        refine List.Sublist.append ?_ ih
        unfold telS ons
        rw [List.filterMap_cons, List.filterMap_nil]
        cases hitI o p x with
        | none => simp
        | some i => simp [toWk]
    exact hsub.nodup hn
theorem told_late {now : Int} {S P : List Wt} (hn : (S.map (·.th)).Nodup) (h : lateP now S P) : Told S (P.map lateW) (fun x _ => x.dl ≤ now) ∧ ∀ x ∈ drAll (P.map lateW) S, now < x.dl := by
  obtain ⟨f1, f2, f3, f4, f5⟩ := late_facts hn h
  refine ⟨⟨fun r hr => ?_, ?_⟩, fun x hx => ?_⟩
  · obtain ⟨x, hx, rfl⟩ := List.mem_map.1 hr
    exact ⟨x, (f1 x hx).1, rfl, (f1 x hx).2⟩
  · rw [List.map_map]; exact f2
  · rw [drAll_filter _ hn] at hx
    obtain ⟨h1, h2⟩ := List.mem_filter.1 hx
    refine f4 x h1 ?_
    rw [List.map_map] at h2
    exact of_decide_eq_true h2
section
variable {w0 w : World} {L : List HP} {K : Value → WP} {b : Nat} {most : Int} {S : List Wt} {sv : Value}
theorem Threads_ok (hS : S.length ≤ 65536) (d : D w0 (Ws b most S :: L) w) (k : ∀ sv' w', D w0 (Rw 3 1 sv' S.length (S.flatMap tc) :: Ws b most S :: L) w' → K sv' w') : Cl pg 19 #[.pointer (some ⟨b, 0, none⟩)] K w := by
  refine V.waits_Waits_Threads_ok ?_
  unfold V.waits_Waits_Threads
  obtain ⟨sv, d⟩ := Ws.out d
  have ho := its_sl (D.pick 2 d).1
  repeat (first | refine drw d fun w d => ?_ | (simp +decide only [SEM]) | (apply ldm d; (focus ((repeat (first | exact .h _ | refine .t _ _ ?_)); done)); (focus rfl)) | (apply lam d; (focus ((repeat (first | exact .h _ | refine .t _ _ ?_)); done)); (focus rfl)) | (((repeat (refine bld_c rfl rfl (by simp) ?_; simp only [List.set_cons_zero, List.set_cons_succ])); refine bld_n ?_)) | (refine d_new _ d fun bn w d => ?_) | ((first | refine bsl1 (by first | rfl | (simp only [cells_agg, cells_int, cells_bool, cells_ptr, cells_sl, cells_map, cells_fn, List.drop_succ_cons, List.drop_zero, List.take_succ_cons, List.take_zero, Nat.zero_add, Nat.reduceAdd, Int.toNat_natCast, Int.toNat_zero]; rfl)) rfl d (by decide) (by decide) fun bn w d => ?_ | refine bsl2 rfl rfl d fun bn w d => ?_ | refine bsl0 d fun bn w d => ?_)) | (first | refine drw d fun w d => ?_ | refine qt d ?_ | refine qe_nil ?_ | refine qe_fa ?_ | refine qe_len ?_ | (apply qlm; (focus ((repeat (first | exact .h _ | refine .t _ _ ?_)); done)); (focus rfl)) | (apply qam; (focus ((repeat (first | exact .h _ | refine .t _ _ ?_)); done)); (focus rfl)) | refine qe _ (fun w d => by ((repeat (refine bld_c rfl rfl (by simp) ?_; simp only [List.set_cons_zero, List.set_cons_succ])); refine bld_n ?_); exact ⟨rfl, rfl⟩) ?_ | refine qe_ext rfl ?_ | refine qia (by first | omega | (simp; omega)) ?_ | refine qia0 (by first | omega | (simp; omega)) ?_ | (focus (apply qln; (focus ((repeat (first | exact .h _ | refine .t _ _ ?_)); done)); (focus exact fun _ => rfl); rotate_left; (focus (first | omega | (simp; done) | (simp; omega))))) | (focus (apply ql1; (focus ((repeat (first | exact .h _ | refine .t _ _ ?_)); done)); (focus exact fun _ => rfl); (focus rfl); rotate_left; (focus (first | omega | (simp; done) | (simp; omega))))) | (focus (apply ql0; (focus ((repeat (first | exact .h _ | refine .t _ _ ?_)); done)); (focus exact fun _ => rfl); (focus rfl); rotate_left; (focus (first | omega | (simp; done) | (simp; omega)))))) | (apply swm d; (focus ((repeat (first | exact .h _ | apply Rp.t)); done)); (focus rfl); (focus rfl); (focus exact ones rfl); intro w d; simp only [SPL] at d) | (apply stm d; (focus ((repeat (first | exact .h _ | apply Rp.t)); done)); (focus rfl); (focus simp); (focus exact ones rfl); intro w d; simp only [SPL] at d) | (apply lpm d; (focus ((repeat (first | exact .h _ | refine .t _ _ ?_)); done)); (focus (simp only [SEM]; rfl)); (focus rfl)) | (first | (focus (apply rw_fld d; (focus ((repeat (first | exact .h _ | refine .t _ _ ?_)); done)); (focus exact fun _ => rfl); (focus rfl); rotate_left; (focus (first | omega | (simp; done) | (simp; omega))))) | (focus (apply rw_el1 d; (focus ((repeat (first | exact .h _ | refine .t _ _ ?_)); done)); (focus exact fun _ => rfl); (focus rfl); rotate_left; (focus (first | omega | (simp; done) | (simp; omega))))) | (focus (apply rw_elN d; (focus ((repeat (first | exact .h _ | refine .t _ _ ?_)); done)); (focus exact fun _ => rfl); rotate_left; (focus (first | omega | (simp; done) | (simp; omega))))) | (focus (apply rw_fld0 d; (focus ((repeat (first | exact .h _ | refine .t _ _ ?_)); done)); (focus exact fun _ => rfl); (focus rfl); rotate_left; (focus (first | omega | (simp; done) | (simp; omega))))) | (focus (apply rw_el10 d; (focus ((repeat (first | exact .h _ | refine .t _ _ ?_)); done)); (focus exact fun _ => rfl); (focus rfl); rotate_left; (focus (first | omega | (simp; done) | (simp; omega))))) | (focus (apply rw_elN0 d; (focus ((repeat (first | exact .h _ | refine .t _ _ ?_)); done)); (focus exact fun _ => rfl); rotate_left; (focus (first | omega | (simp; done) | (simp; omega)))))) | (first | refine ch d ?_ | refine ch (D.tail d) ?_ | refine ch (D.tail (D.tail d)) ?_ | refine ch (D.tail (D.tail (D.tail d))) ?_))
  obtain ⟨q, c, rfl, -⟩ := Rw.shape d.swap.1
  repeat (first | refine drw d fun w d => ?_ | (simp +decide only [SEM]) | (apply ldm d; (focus ((repeat (first | exact .h _ | refine .t _ _ ?_)); done)); (focus rfl)) | (apply lam d; (focus ((repeat (first | exact .h _ | refine .t _ _ ?_)); done)); (focus rfl)) | (((repeat (refine bld_c rfl rfl (by simp) ?_; simp only [List.set_cons_zero, List.set_cons_succ])); refine bld_n ?_)) | (refine d_new _ d fun bn w d => ?_) | ((first | refine bsl1 (by first | rfl | (simp only [cells_agg, cells_int, cells_bool, cells_ptr, cells_sl, cells_map, cells_fn, List.drop_succ_cons, List.drop_zero, List.take_succ_cons, List.take_zero, Nat.zero_add, Nat.reduceAdd, Int.toNat_natCast, Int.toNat_zero]; rfl)) rfl d (by decide) (by decide) fun bn w d => ?_ | refine bsl2 rfl rfl d fun bn w d => ?_ | refine bsl0 d fun bn w d => ?_)) | (first | refine drw d fun w d => ?_ | refine qt d ?_ | refine qe_nil ?_ | refine qe_fa ?_ | refine qe_len ?_ | (apply qlm; (focus ((repeat (first | exact .h _ | refine .t _ _ ?_)); done)); (focus rfl)) | (apply qam; (focus ((repeat (first | exact .h _ | refine .t _ _ ?_)); done)); (focus rfl)) | refine qe _ (fun w d => by ((repeat (refine bld_c rfl rfl (by simp) ?_; simp only [List.set_cons_zero, List.set_cons_succ])); refine bld_n ?_); exact ⟨rfl, rfl⟩) ?_ | refine qe_ext rfl ?_ | refine qia (by first | omega | (simp; omega)) ?_ | refine qia0 (by first | omega | (simp; omega)) ?_ | (focus (apply qln; (focus ((repeat (first | exact .h _ | refine .t _ _ ?_)); done)); (focus exact fun _ => rfl); rotate_left; (focus (first | omega | (simp; done) | (simp; omega))))) | (focus (apply ql1; (focus ((repeat (first | exact .h _ | refine .t _ _ ?_)); done)); (focus exact fun _ => rfl); (focus rfl); rotate_left; (focus (first | omega | (simp; done) | (simp; omega))))) | (focus (apply ql0; (focus ((repeat (first | exact .h _ | refine .t _ _ ?_)); done)); (focus exact fun _ => rfl); (focus rfl); rotate_left; (focus (first | omega | (simp; done) | (simp; omega)))))) | (apply swm d; (focus ((repeat (first | exact .h _ | apply Rp.t)); done)); (focus rfl); (focus rfl); (focus exact ones rfl); intro w d; simp only [SPL] at d) | (apply stm d; (focus ((repeat (first | exact .h _ | apply Rp.t)); done)); (focus rfl); (focus simp); (focus exact ones rfl); intro w d; simp only [SPL] at d) | (apply lpm d; (focus ((repeat (first | exact .h _ | refine .t _ _ ?_)); done)); (focus (simp only [SEM]; rfl)); (focus rfl)) | (first | (focus (apply rw_fld d; (focus ((repeat (first | exact .h _ | refine .t _ _ ?_)); done)); (focus exact fun _ => rfl); (focus rfl); rotate_left; (focus (first | omega | (simp; done) | (simp; omega))))) | (focus (apply rw_el1 d; (focus ((repeat (first | exact .h _ | refine .t _ _ ?_)); done)); (focus exact fun _ => rfl); (focus rfl); rotate_left; (focus (first | omega | (simp; done) | (simp; omega))))) | (focus (apply rw_elN d; (focus ((repeat (first | exact .h _ | refine .t _ _ ?_)); done)); (focus exact fun _ => rfl); rotate_left; (focus (first | omega | (simp; done) | (simp; omega))))) | (focus (apply rw_fld0 d; (focus ((repeat (first | exact .h _ | refine .t _ _ ?_)); done)); (focus exact fun _ => rfl); (focus rfl); rotate_left; (focus (first | omega | (simp; done) | (simp; omega))))) | (focus (apply rw_el10 d; (focus ((repeat (first | exact .h _ | refine .t _ _ ?_)); done)); (focus exact fun _ => rfl); (focus rfl); rotate_left; (focus (first | omega | (simp; done) | (simp; omega))))) | (focus (apply rw_elN0 d; (focus ((repeat (first | exact .h _ | refine .t _ _ ?_)); done)); (focus exact fun _ => rfl); rotate_left; (focus (first | omega | (simp; done) | (simp; omega)))))) | (first | refine ch d ?_ | refine ch (D.tail d) ?_ | refine ch (D.tail (D.tail d)) ?_ | refine ch (D.tail (D.tail (D.tail d))) ?_))
  refine ⟨fun vs w => ∃ (i : Nat) (lv : Value), vs = [lv, .int .i64 i] ∧ i ≤ S.length ∧ D w0 (Rw 3 1 lv (S.take i).length ((S.take i).flatMap tc) :: cel b 75 [.slice q S.length c, .int .i64 most] :: Rw 80 3 (.slice q S.length c) S.length (S.flatMap wc) :: Its S :: L) w, fun vs _ => match vs with | [_, .int _ i] => S.length - i.toNat | _ => 0, ⟨0, _, rfl, by omega, ⟨Rw.nil _ _ d.1, d.2⟩⟩, ?_⟩
  clear d
  rintro _ w ⟨i, lv, rfl, hi, d⟩ _
  simp only [UN]
  repeat (first | refine drw d fun w d => ?_ | (simp +decide only [SEM]) | (apply ldm d; (focus ((repeat (first | exact .h _ | refine .t _ _ ?_)); done)); (focus rfl)) | (apply lam d; (focus ((repeat (first | exact .h _ | refine .t _ _ ?_)); done)); (focus rfl)) | (((repeat (refine bld_c rfl rfl (by simp) ?_; simp only [List.set_cons_zero, List.set_cons_succ])); refine bld_n ?_)) | (refine d_new _ d fun bn w d => ?_) | ((first | refine bsl1 (by first | rfl | (simp only [cells_agg, cells_int, cells_bool, cells_ptr, cells_sl, cells_map, cells_fn, List.drop_succ_cons, List.drop_zero, List.take_succ_cons, List.take_zero, Nat.zero_add, Nat.reduceAdd, Int.toNat_natCast, Int.toNat_zero]; rfl)) rfl d (by decide) (by decide) fun bn w d => ?_ | refine bsl2 rfl rfl d fun bn w d => ?_ | refine bsl0 d fun bn w d => ?_)) | (first | refine drw d fun w d => ?_ | refine qt d ?_ | refine qe_nil ?_ | refine qe_fa ?_ | refine qe_len ?_ | (apply qlm; (focus ((repeat (first | exact .h _ | refine .t _ _ ?_)); done)); (focus rfl)) | (apply qam; (focus ((repeat (first | exact .h _ | refine .t _ _ ?_)); done)); (focus rfl)) | refine qe _ (fun w d => by ((repeat (refine bld_c rfl rfl (by simp) ?_; simp only [List.set_cons_zero, List.set_cons_succ])); refine bld_n ?_); exact ⟨rfl, rfl⟩) ?_ | refine qe_ext rfl ?_ | refine qia (by first | omega | (simp; omega)) ?_ | refine qia0 (by first | omega | (simp; omega)) ?_ | (focus (apply qln; (focus ((repeat (first | exact .h _ | refine .t _ _ ?_)); done)); (focus exact fun _ => rfl); rotate_left; (focus (first | omega | (simp; done) | (simp; omega))))) | (focus (apply ql1; (focus ((repeat (first | exact .h _ | refine .t _ _ ?_)); done)); (focus exact fun _ => rfl); (focus rfl); rotate_left; (focus (first | omega | (simp; done) | (simp; omega))))) | (focus (apply ql0; (focus ((repeat (first | exact .h _ | refine .t _ _ ?_)); done)); (focus exact fun _ => rfl); (focus rfl); rotate_left; (focus (first | omega | (simp; done) | (simp; omega)))))) | (apply swm d; (focus ((repeat (first | exact .h _ | apply Rp.t)); done)); (focus rfl); (focus rfl); (focus exact ones rfl); intro w d; simp only [SPL] at d) | (apply stm d; (focus ((repeat (first | exact .h _ | apply Rp.t)); done)); (focus rfl); (focus simp); (focus exact ones rfl); intro w d; simp only [SPL] at d) | (apply lpm d; (focus ((repeat (first | exact .h _ | refine .t _ _ ?_)); done)); (focus (simp only [SEM]; rfl)); (focus rfl)) | (first | (focus (apply rw_fld d; (focus ((repeat (first | exact .h _ | refine .t _ _ ?_)); done)); (focus exact fun _ => rfl); (focus rfl); rotate_left; (focus (first | omega | (simp; done) | (simp; omega))))) | (focus (apply rw_el1 d; (focus ((repeat (first | exact .h _ | refine .t _ _ ?_)); done)); (focus exact fun _ => rfl); (focus rfl); rotate_left; (focus (first | omega | (simp; done) | (simp; omega))))) | (focus (apply rw_elN d; (focus ((repeat (first | exact .h _ | refine .t _ _ ?_)); done)); (focus exact fun _ => rfl); rotate_left; (focus (first | omega | (simp; done) | (simp; omega))))) | (focus (apply rw_fld0 d; (focus ((repeat (first | exact .h _ | refine .t _ _ ?_)); done)); (focus exact fun _ => rfl); (focus rfl); rotate_left; (focus (first | omega | (simp; done) | (simp; omega))))) | (focus (apply rw_el10 d; (focus ((repeat (first | exact .h _ | refine .t _ _ ?_)); done)); (focus exact fun _ => rfl); (focus rfl); rotate_left; (focus (first | omega | (simp; done) | (simp; omega))))) | (focus (apply rw_elN0 d; (focus ((repeat (first | exact .h _ | refine .t _ _ ?_)); done)); (focus exact fun _ => rfl); rotate_left; (focus (first | omega | (simp; done) | (simp; omega)))))) | (first | refine ch d ?_ | refine ch (D.tail d) ?_ | refine ch (D.tail (D.tail d)) ?_ | refine ch (D.tail (D.tail (D.tail d))) ?_))
  refine ⟨fun hlt => ?_, fun hge => ?_⟩
  · have hlt' : i < S.length := by omega
    refine rw_elN d (.t _ _ (.t _ _ (.h _))) wc_len hlt' ?_
    refine d_new _ d fun bx w d => ?_
    refine stw0 d rfl rfl (by simp only [cells_agg]; exact wc_one (ho _ (List.getElem_mem _))) fun w d => ?_
    simp only [cells_agg, List.toList_toArray] at d
    repeat (first | refine drw d fun w d => ?_ | (simp +decide only [SEM]) | (apply ldm d; (focus ((repeat (first | exact .h _ | refine .t _ _ ?_)); done)); (focus rfl)) | (apply lam d; (focus ((repeat (first | exact .h _ | refine .t _ _ ?_)); done)); (focus rfl)) | (((repeat (refine bld_c rfl rfl (by simp) ?_; simp only [List.set_cons_zero, List.set_cons_succ])); refine bld_n ?_)) | (refine d_new _ d fun bn w d => ?_) | ((first | refine bsl1 (by first | rfl | (simp only [cells_agg, cells_int, cells_bool, cells_ptr, cells_sl, cells_map, cells_fn, List.drop_succ_cons, List.drop_zero, List.take_succ_cons, List.take_zero, Nat.zero_add, Nat.reduceAdd, Int.toNat_natCast, Int.toNat_zero]; rfl)) rfl d (by decide) (by decide) fun bn w d => ?_ | refine bsl2 rfl rfl d fun bn w d => ?_ | refine bsl0 d fun bn w d => ?_)) | (first | refine drw d fun w d => ?_ | refine qt d ?_ | refine qe_nil ?_ | refine qe_fa ?_ | refine qe_len ?_ | (apply qlm; (focus ((repeat (first | exact .h _ | refine .t _ _ ?_)); done)); (focus rfl)) | (apply qam; (focus ((repeat (first | exact .h _ | refine .t _ _ ?_)); done)); (focus rfl)) | refine qe _ (fun w d => by ((repeat (refine bld_c rfl rfl (by simp) ?_; simp only [List.set_cons_zero, List.set_cons_succ])); refine bld_n ?_); exact ⟨rfl, rfl⟩) ?_ | refine qe_ext rfl ?_ | refine qia (by first | omega | (simp; omega)) ?_ | refine qia0 (by first | omega | (simp; omega)) ?_ | (focus (apply qln; (focus ((repeat (first | exact .h _ | refine .t _ _ ?_)); done)); (focus exact fun _ => rfl); rotate_left; (focus (first | omega | (simp; done) | (simp; omega))))) | (focus (apply ql1; (focus ((repeat (first | exact .h _ | refine .t _ _ ?_)); done)); (focus exact fun _ => rfl); (focus rfl); rotate_left; (focus (first | omega | (simp; done) | (simp; omega))))) | (focus (apply ql0; (focus ((repeat (first | exact .h _ | refine .t _ _ ?_)); done)); (focus exact fun _ => rfl); (focus rfl); rotate_left; (focus (first | omega | (simp; done) | (simp; omega)))))) | (apply swm d; (focus ((repeat (first | exact .h _ | apply Rp.t)); done)); (focus rfl); (focus rfl); (focus exact ones rfl); intro w d; simp only [SPL] at d) | (apply stm d; (focus ((repeat (first | exact .h _ | apply Rp.t)); done)); (focus rfl); (focus simp); (focus exact ones rfl); intro w d; simp only [SPL] at d) | (apply lpm d; (focus ((repeat (first | exact .h _ | refine .t _ _ ?_)); done)); (focus (simp only [SEM]; rfl)); (focus rfl)) | (first | (focus (apply rw_fld d; (focus ((repeat (first | exact .h _ | refine .t _ _ ?_)); done)); (focus exact fun _ => rfl); (focus rfl); rotate_left; (focus (first | omega | (simp; done) | (simp; omega))))) | (focus (apply rw_el1 d; (focus ((repeat (first | exact .h _ | refine .t _ _ ?_)); done)); (focus exact fun _ => rfl); (focus rfl); rotate_left; (focus (first | omega | (simp; done) | (simp; omega))))) | (focus (apply rw_elN d; (focus ((repeat (first | exact .h _ | refine .t _ _ ?_)); done)); (focus exact fun _ => rfl); rotate_left; (focus (first | omega | (simp; done) | (simp; omega))))) | (focus (apply rw_fld0 d; (focus ((repeat (first | exact .h _ | refine .t _ _ ?_)); done)); (focus exact fun _ => rfl); (focus rfl); rotate_left; (focus (first | omega | (simp; done) | (simp; omega))))) | (focus (apply rw_el10 d; (focus ((repeat (first | exact .h _ | refine .t _ _ ?_)); done)); (focus exact fun _ => rfl); (focus rfl); rotate_left; (focus (first | omega | (simp; done) | (simp; omega))))) | (focus (apply rw_elN0 d; (focus ((repeat (first | exact .h _ | refine .t _ _ ?_)); done)); (focus exact fun _ => rfl); rotate_left; (focus (first | omega | (simp; done) | (simp; omega)))))) | (first | refine ch d ?_ | refine ch (D.tail d) ?_ | refine ch (D.tail (D.tail d)) ?_ | refine ch (D.tail (D.tail (D.tail d))) ?_))
    have hlen : (S.take i).length = i := by rw [List.length_take]; omega
    refine d_app (m := 1) (D.sel [2] d) (src_of (gc1 (D.sel [2] d)) rfl (ones rfl) 1) rfl (by omega) (by omega) (by omega) (ones rfl) fun lv' w d => ?_
    repeat (first | refine drw d fun w d => ?_ | (simp +decide only [SEM]) | (apply ldm d; (focus ((repeat (first | exact .h _ | refine .t _ _ ?_)); done)); (focus rfl)) | (apply lam d; (focus ((repeat (first | exact .h _ | refine .t _ _ ?_)); done)); (focus rfl)) | (((repeat (refine bld_c rfl rfl (by simp) ?_; simp only [List.set_cons_zero, List.set_cons_succ])); refine bld_n ?_)) | (refine d_new _ d fun bn w d => ?_) | ((first | refine bsl1 (by first | rfl | (simp only [cells_agg, cells_int, cells_bool, cells_ptr, cells_sl, cells_map, cells_fn, List.drop_succ_cons, List.drop_zero, List.take_succ_cons, List.take_zero, Nat.zero_add, Nat.reduceAdd, Int.toNat_natCast, Int.toNat_zero]; rfl)) rfl d (by decide) (by decide) fun bn w d => ?_ | refine bsl2 rfl rfl d fun bn w d => ?_ | refine bsl0 d fun bn w d => ?_)) | (first | refine drw d fun w d => ?_ | refine qt d ?_ | refine qe_nil ?_ | refine qe_fa ?_ | refine qe_len ?_ | (apply qlm; (focus ((repeat (first | exact .h _ | refine .t _ _ ?_)); done)); (focus rfl)) | (apply qam; (focus ((repeat (first | exact .h _ | refine .t _ _ ?_)); done)); (focus rfl)) | refine qe _ (fun w d => by ((repeat (refine bld_c rfl rfl (by simp) ?_; simp only [List.set_cons_zero, List.set_cons_succ])); refine bld_n ?_); exact ⟨rfl, rfl⟩) ?_ | refine qe_ext rfl ?_ | refine qia (by first | omega | (simp; omega)) ?_ | refine qia0 (by first | omega | (simp; omega)) ?_ | (focus (apply qln; (focus ((repeat (first | exact .h _ | refine .t _ _ ?_)); done)); (focus exact fun _ => rfl); rotate_left; (focus (first | omega | (simp; done) | (simp; omega))))) | (focus (apply ql1; (focus ((repeat (first | exact .h _ | refine .t _ _ ?_)); done)); (focus exact fun _ => rfl); (focus rfl); rotate_left; (focus (first | omega | (simp; done) | (simp; omega))))) | (focus (apply ql0; (focus ((repeat (first | exact .h _ | refine .t _ _ ?_)); done)); (focus exact fun _ => rfl); (focus rfl); rotate_left; (focus (first | omega | (simp; done) | (simp; omega)))))) | (apply swm d; (focus ((repeat (first | exact .h _ | apply Rp.t)); done)); (focus rfl); (focus rfl); (focus exact ones rfl); intro w d; simp only [SPL] at d) | (apply stm d; (focus ((repeat (first | exact .h _ | apply Rp.t)); done)); (focus rfl); (focus simp); (focus exact ones rfl); intro w d; simp only [SPL] at d) | (apply lpm d; (focus ((repeat (first | exact .h _ | refine .t _ _ ?_)); done)); (focus (simp only [SEM]; rfl)); (focus rfl)) | (first | (focus (apply rw_fld d; (focus ((repeat (first | exact .h _ | refine .t _ _ ?_)); done)); (focus exact fun _ => rfl); (focus rfl); rotate_left; (focus (first | omega | (simp; done) | (simp; omega))))) | (focus (apply rw_el1 d; (focus ((repeat (first | exact .h _ | refine .t _ _ ?_)); done)); (focus exact fun _ => rfl); (focus rfl); rotate_left; (focus (first | omega | (simp; done) | (simp; omega))))) | (focus (apply rw_elN d; (focus ((repeat (first | exact .h _ | refine .t _ _ ?_)); done)); (focus exact fun _ => rfl); rotate_left; (focus (first | omega | (simp; done) | (simp; omega))))) | (focus (apply rw_fld0 d; (focus ((repeat (first | exact .h _ | refine .t _ _ ?_)); done)); (focus exact fun _ => rfl); (focus rfl); rotate_left; (focus (first | omega | (simp; done) | (simp; omega))))) | (focus (apply rw_el10 d; (focus ((repeat (first | exact .h _ | refine .t _ _ ?_)); done)); (focus exact fun _ => rfl); (focus rfl); rotate_left; (focus (first | omega | (simp; done) | (simp; omega))))) | (focus (apply rw_elN0 d; (focus ((repeat (first | exact .h _ | refine .t _ _ ?_)); done)); (focus exact fun _ => rfl); rotate_left; (focus (first | omega | (simp; done) | (simp; omega)))))) | (first | refine ch d ?_ | refine ch (D.tail d) ?_ | refine ch (D.tail (D.tail d)) ?_ | refine ch (D.tail (D.tail (D.tail d))) ?_))
    rw [w64 (by omega) (by omega)]
    refine ⟨⟨i + 1, lv', by simp, by omega, ?_⟩, by show S.length - ((i : Int) + 1).toNat < S.length - (i : Int).toNat; omega⟩
    rw [List.take_succ_eq_append_getElem hlt', List.length_append, List.flatMap_append, List.flatMap_singleton]
    exact (D.sel [1, 2, 0] d).tail.tail
  · have hi' : i = S.length := by omega
    subst hi'
    rw [List.take_length] at d
    exact k _ _ (D.sel [1, 0] (Ws.mk (D.sel [1, 2, 3, 0] d)))
end
end Go.Proofs.Ythjkmgckkacegaa
