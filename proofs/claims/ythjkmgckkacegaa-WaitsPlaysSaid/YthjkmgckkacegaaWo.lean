/- Waits: the law of plays. -/
import Derived.Test.YthjkmgckkacegaaWn
set_option maxRecDepth 100000
set_option maxHeartbeats 8000000
namespace Go.Proofs.Ythjkmgckkacegaa
open Go Go.Jac
/-- What both have of a wait. -/
def cr (x : Wt) : Int × Int × List It := (x.th, x.dl, x.it)
def Sg (S X : List Wt) : Prop := S.map cr = X.map cr
section
variable {S X : List Wt}
theorem Sg.len (h : Sg S X) : S.length = X.length := by have := congrArg List.length h; simpa using this
theorem Sg.ths (h : Sg S X) : S.map (·.th) = X.map (·.th) := by
  have := congrArg (List.map Prod.fst) h
  rw [List.map_map, List.map_map] at this
  exact this
theorem Sg.get (h : Sg S X) {i : Nat} (hs : i < S.length) (hx : i < X.length) : cr S[i] = cr X[i] := by
  have h1 : (S.map cr)[i]? = (X.map cr)[i]? := by rw [h]
  rw [List.getElem?_map, List.getElem?_map, List.getElem?_eq_getElem hs, List.getElem?_eq_getElem hx] at h1
  simpa using h1
theorem Sg.wix (h : Sg S X) (th : Int) : Go.Proofs.Ythjkmgckkacegaa.wix th S = Go.Proofs.Ythjkmgckkacegaa.wix th X := wix_sig h.ths
theorem Sg.snoc (h : Sg S X) {x y : Wt} (e : cr x = cr y) : Sg (S ++ [x]) (X ++ [y]) := by
  unfold Sg at *
  rw [List.map_append, List.map_append, h, List.map_singleton, List.map_singleton, e]
theorem Sg.filter (h : Sg S X) (p : Int × Int × List It → Bool) : Sg (S.filter fun x => p (cr x)) (X.filter fun x => p (cr x)) := by
  have key : ∀ l : List Wt, (l.filter fun x => p (cr x)).map cr = (l.map cr).filter p := fun l => by rw [List.filter_map]; rfl
  unfold Sg
  rw [key, key, h]
theorem Sg.rm (h : Sg S X) (th : Int) : Sg (rmT th S) (rmT th X) := h.filter fun c => decide (c.1 ≠ th)
theorem Sg.all (h : Sg S X) (l : List Wk) : Sg (rmAll l S) (rmAll l X) := by
  induction l generalizing S X with
  | nil => exact h
  | cons x r ih => exact ih (h.rm x.th)
theorem dr_rm {th : Int} (hn : (S.map (·.th)).Nodup) : drS th S = rmT th S := drS_filter hn
theorem drAll_rm (l : List Wk) : ∀ {S : List Wt}, (S.map (·.th)).Nodup → drAll l S = rmAll l S := by
  induction l with
  | nil => intro S _; rfl
  | cons x r ih =>
    intro S hn
    show drAll r (drS x.th S) = rmAll r (rmT x.th S)
    rw [dr_rm hn]
    exact ih (nodup_filter hn)
theorem rmAll_nd (l : List Wk) : ∀ {S : List Wt}, (S.map (·.th)).Nodup → ((rmAll l S).map (·.th)).Nodup := by
  induction l with
  | nil => intro S h; exact h
  | cons x r ih => intro S hn; exact ih (nodup_filter hn)
theorem Sg.tel (h : Sg S X) (o : Int) (p : It → Bool) (st sh : Int) : telS o p st sh S = telS o p st sh X := by
  have key : ∀ l : List Wt, telS o p st sh l = (l.map cr).filterMap fun c => Option.map (fun i : Nat => (⟨c.1, (i : Int), st, sh⟩ : Wk)) (c.2.2.findIdx? fun y => decide (y.o = o) && p y) := by
    intro l
    unfold telS ons
    rw [List.map_filterMap, List.filterMap_map]
    congr 1
    funext x
    simp only [Function.comp, hitI, cr, Option.map_map]
    rfl
  rw [key, key, h]
def kd (x : Wt) : Int × Int := (x.dl, x.th)
theorem Sg.late (h : Sg S X) {now : Int} {P R : List Wt} (hP : lateP now S P) (hR : lateP now X R) : P.map lateW = R.map lateW := by
  have key : ∀ l : List Wt, (l.filter fun x => !decide (now < x.dl)).map kd = ((l.map cr).filter fun c => !decide (now < c.2.1)).map fun c => (c.2.1, c.1) := fun l => by
    rw [List.filter_map, List.map_map]; rfl
  have e : P.map kd = R.map kd := by
    have h1 : (P.map kd).Perm (R.map kd) := by
      refine (hP.1.map kd).trans (List.Perm.trans ?_ (hR.1.map kd).symm)
      rw [key, key, h]
    refine h1.eq_of_pairwise (le := fun a b : Int × Int => a.1 < b.1 ∨ (a.1 = b.1 ∧ a.2 ≤ b.2)) (fun a b _ _ h1 h2 => ?_) (List.pairwise_map.2 hP.2) (List.pairwise_map.2 hR.2)
    obtain ⟨a1, a2⟩ := a
    obtain ⟨b1, b2⟩ := b
    simp only [Prod.mk.injEq] at *
    omega
  have e2 : ∀ l : List Wt, l.map lateW = (l.map kd).map fun c => (⟨c.2, -1, -21, 0⟩ : Wk) := fun l => by rw [List.map_map]; rfl
  rw [e2, e2, e]
end
/-- What is known of the items. -/
def Igd (X : List Wt) : Prop := ∀ x ∈ X, x.it.length ≤ 12 ∧ ∀ y ∈ x.it, I64 y.m
theorem Sg.igd {S X : List Wt} (h : Sg S X) (g : Igd X) : Igd S := fun x hx => by
  have : cr x ∈ X.map cr := by rw [← h]; exact List.mem_map.2 ⟨x, hx, rfl⟩
  obtain ⟨y, hy, e⟩ := List.mem_map.1 this
  have e : y.it = x.it := congrArg (fun c => c.2.2) e
  rw [← e]
  exact g y hy
theorem Igd.all {X : List Wt} (h : Igd X) (l : List Wk) : Igd (rmAll l X) := by
  induction l generalizing X with
  | nil => exact h
  | cons x r ih => exact ih fun y hy => h y (List.mem_filter.1 hy).1
theorem steps2_of {w0 : World} {lv : Value} {n : Nat} (h : OldSl pg w0 53 5 lv n) : ∃ l : List Stp, l.length = n ∧ (∀ x ∈ l, I64 x.n ∧ OldL w0 2 ic x.iv x.it ∧ ∀ y ∈ x.it, I64 y.m) ∧ OldL w0 5 oc lv l ∧ n ≤ maxLen := by
  refine h.list fun vs hv => ?_
  obtain ⟨x0, x1, x2, x3, x4, rfl, h0, h1, h2, h3, h4⟩ := rd53 hv
  obtain ⟨m, hm⟩ := osl_of (es := 2) Try.underlying22 (by kernel_rfl) h4
  obtain ⟨l, -, hy, ho, -⟩ := its_of hm
  exact ⟨⟨x0, x1, x2, x3, x4, l⟩, rfl, I64.of_wf h3, ho, fun y hy' => (hy y hy').2⟩
section
variable {w0 w : World} {L : List HP} {K : Value → WP} {b : Nat} {most : Int} {S X : List Wt} {sv lv v : Value}
theorem New_no {n : Int} (hn : ¬ (0 ≤ n ∧ n ≤ 65536)) (k : K (.pointer none) w) : Cl pg 8 #[.int .i64 n] K w := by
  refine V.waits_New_ok ?_
  unfold V.waits_New
  repeat (simp +decide only [SEM])
  exact ⟨fun h => ⟨fun _ => k, fun h2 => absurd ⟨by omega, by omega⟩ hn⟩, fun _ => k⟩
theorem plays_ok {l : List Stp} (hmI : I64 most) (hl : l.length ≤ maxLen) (hop : ∀ x ∈ l, I64 x.n ∧ OldL w0 2 ic x.iv x.it ∧ ∀ y ∈ x.it, I64 y.m) (ho : OldL w0 5 oc lv l) (hm : Old w0 ∈ L) (d : D w0 L w) (k : ∀ w', D w0 L w' → K (.bool true) w') :
    Cl pg 7 #[.int .i64 most, lv] K w := by
  refine V.jacinthlaw16_WaitsPlays_ok ?_
  unfold V.jacinthlaw16_WaitsPlays
  have aw : ∀ (w : World), D w0 L w → Cl pg 9 #[] (fun v w => K v w) w := fun w d => awake_ok d k
  by_cases hmr : 0 ≤ most ∧ most ≤ 65536
  · refine fn10 (fun _ _ => rfl) (New_ok hmr d fun b w d => ?_)
    repeat (simp +decide only [SEM])
    refine ⟨fun _ => ⟨fun h => by omega, fun _ => ?_⟩, fun h => by omega⟩
    refine ho.len ?_
    repeat (simp +decide only [SEM])
    refine ⟨fun h => fn00 (fun _ _ => rfl) (aw w d.tail), fun h => ?_⟩
    repeat (first | (simp +decide only [SEM]) | (((repeat (refine bld_c rfl rfl (by simp) ?_; simp only [List.set_cons_zero, List.set_cons_succ])); refine bld_n ?_)) | (refine d_new _ d fun bn w d => ?_))
    generalize bn = c at d ⊢
    have d := D.swap (Xs.mk (X := []) (D.swap ⟨Rw.nil _ _ d.1, d.2⟩))
    refine ho.len ?_
    refine ⟨fun vs w' => ∃ (i : Nat) (S X : List Wt) (u : Value), vs = [u, .int .i64 i] ∧ i ≤ l.length ∧ S.length ≤ i ∧ Sg S X ∧ (S.map (·.th)).Nodup ∧ Ois w0 X ∧ Igd X ∧ D w0 (Ws b most S :: Xs c most X :: L) w', fun vs _ => match vs with | [_, .int _ i] => l.length - i.toNat | _ => 0, ⟨0, [], [], _, rfl, by omega, by simp, rfl, by simp, (fun x hx => by cases hx), (fun x hx => by cases hx), d⟩, ?_⟩
    clear d
    rintro _ w ⟨i, S, X, u, rfl, hi, hSi, hsg, hnd, hO, hI, d⟩ _
    simp only [UN]
    repeat (simp +decide only [SEM])
    refine ⟨fun hlt => ?_, fun hge => fn00 (fun _ _ => rfl) (aw w d.tail.tail)⟩
    have hlt' : i < l.length := by omega
    have hSl : S.length ≤ 65536 := by omega
    have hXl : X.length ≤ 65536 := by rw [← hsg.len]; omega
    refine ho.ia (by omega) hlt fun a ha => ?_
    simp only [Int.toNat_natCast] at ha
    refine old_ldN (oc l[i]) d (by simp [hm]) rfl (fun j x hx => ha j x hx) ?_
    have hx := hop l[i] (List.getElem_mem _)
    generalize l[i] = x at hx ⊢
    obtain ⟨kd, th, ob, n, iv, it⟩ := x
    obtain ⟨hnI, hOit, hIit⟩ := hx
    simp only [oc] at hnI hOit hIit ⊢
    obtain ⟨qi, ci, rfl⟩ := hOit.shape
    repeat (first | (simp +decide only [SEM]) | (apply ldm d; (focus ((repeat (first | exact .h _ | refine .t _ _ ?_)); done)); (focus rfl)) | (refine d_new _ d fun bn w d => ?_) | (apply swm d; (focus ((repeat (first | exact .h _ | apply Rp.t)); done)); (focus rfl); (focus rfl); (focus exact ones rfl); intro w d; simp only [SPL] at d))
    generalize bn = bo at d ⊢
    refine ⟨fun h12 => fn00 (fun _ _ => rfl) (aw w d.tail.tail.tail), fun h12 => ?_⟩
    intro vK hvK
    have fin : ∀ (w : World) (S X : List Wt), S.length ≤ i + 1 → Sg S X → (S.map (·.th)).Nodup → Ois w0 X → Igd X → D w0 (Ws b most S :: Xs c most X :: cel bo 53 [.int .i64 kd, .int .i64 th, .int .i64 ob, .int .i64 n, .slice qi it.length ci] :: L) w → vK [.bool true] w := by
      intro w S X hSi hsg hnd hO hI d
      have hSl : S.length ≤ 65536 := by omega
      have hXl : X.length ≤ 65536 := by rw [← hsg.len]; omega
      refine hvK _ _ ?_
      intro _
      simp only [UN]
      repeat (first | (simp +decide only [SEM]) | (apply ldm d; (focus ((repeat (first | exact .h _ | refine .t _ _ ?_)); done)); (focus rfl)))
      refine fn20 (fun _ _ => rfl) (RFind_ok hXl d.swap fun w d => ?_)
      obtain ⟨v, d⟩ := Xs.out d
      obtain ⟨q, cq, rfl, -⟩ := Rw.shape d.swap.1
      have hlen := hsg.len
      have hwx := hsg.wix th
      have lp : ∀ (qv : Option Addr) (cv : Nat) (q : Option Addr) (cq : Nat) (w : World), D w0 (cel c 62 [.slice q X.length cq, .int .i64 most] :: Rw 71 3 (.slice q X.length cq) X.length (X.flatMap wc) :: Ws b most S :: Rw 3 1 (.slice qv S.length cv) S.length (S.flatMap tc) :: cel bo 53 [.int .i64 kd, .int .i64 th, .int .i64 ob, .int .i64 n, .slice qi it.length ci] :: L) w → S.length = X.length → Sg S X →
          (LoopC [u, .int .i64 0] fun vK_1 vs => AllE <|
            UN vs fun v4_1 vs =>
            UN vs fun v221 _ =>
            BinI .lss v221 (.int .i64 S.length) fun v222 =>
            Cnd v222 (Drw <| QtC fun I =>
            QE I (fun KK => IA 1 (.slice qv S.length cv) v221 fun v226 => KK v226) fun v226_1 =>
            QE I (fun KK => Ld1 v226_1 fun v227 => KK v227) fun v227_1 =>
            QE I (fun KK => NilC (.pointer (some ⟨c, 0, none⟩)) fun v173 => KK v173) fun v229_1 =>
            QE I (fun KK => FA v229_1 0 fun v230 => KK v230) fun v230_1 =>
            QE I (fun KK => Ld1 v230_1 fun v231 => KK v231) fun v231_1 =>
            QE I (fun KK => IA 3 v231_1 v221 fun v233 => KK v233) fun v233_1 =>
            QE I (fun KK => FA v233_1 0 fun v234 => KK v234) fun v234_1 =>
            QE I (fun KK => Ld1 v234_1 fun v235 => KK v235) fun v235_1 =>
            BinI .neq v227_1 v235_1 fun v236 =>
            Cnd v236 (K (.bool false)) (BinI .add v221 (.int .i64 1) fun v237 => vK_1 [v4_1, v237]))
            (BinI .add (.int .i64 i) (.int .i64 1) fun v238 w' =>
              (∃ (i_1 : Nat) (S X : List Wt) (u_1 : Value), [v4_1, v238] = [u_1, .int .i64 i_1] ∧ i_1 ≤ l.length ∧ S.length ≤ i_1 ∧ Sg S X ∧ (S.map (·.th)).Nodup ∧ Ois w0 X ∧ Igd X ∧ D w0 (Ws b most S :: Xs c most X :: L) w') ∧ (match [v4_1, v238] with | [_, .int _ i] => l.length - i.toNat | _ => 0) < l.length - i)) w := by
        intro qv cv q cq w d hlen hsg
        refine ⟨fun vs w' => ∃ (u1 : Value) (j : Nat), vs = [u1, .int .i64 j] ∧ j ≤ S.length ∧ D w0 _ w', fun vs _ => match vs with | [_, .int _ j] => S.length - j.toNat | _ => 0, ⟨_, 0, rfl, by omega, d⟩, ?_⟩
        clear d
        rintro _ w ⟨u1, j, rfl, hj, d⟩ _
        simp only [UN]
        repeat (simp +decide only [SEM])
        refine ⟨fun hlt => ?_, fun hge => ?_⟩
        · have hjS : j < S.length := by omega
          have hjX : j < X.length := by omega
          have hth : S[j].th = X[j].th := congrArg (fun c => c.1) (hsg.get hjS hjX)
          obtain ⟨b2, c2, e⟩ := rw_ptr d (.t _ _ (.h _)) (by omega)
          cases e
          obtain ⟨b3, c3, e⟩ := rw_ptr d (.t _ _ (.t _ _ (.t _ _ (.h _)))) (by omega)
          cases e
          repeat (first | refine drw d fun w d => ?_ | (simp +decide only [SEM]) | refine qt d ?_ | refine qe_nil ?_ | (apply qlm; (focus ((repeat (first | exact .h _ | refine .t _ _ ?_)); done)); (focus rfl)) | refine qia (by first | omega | (simp; omega)) ?_ | (focus (apply ql0; (focus ((repeat (first | exact .h _ | refine .t _ _ ?_)); done)); (focus exact fun _ => rfl); (focus rfl); rotate_left; (focus (first | omega | (simp; done) | (simp; omega))))))
          refine ⟨fun h => absurd hth h, fun _ => ?_⟩
          rw [w64 (by omega) (by omega)]
          exact ⟨⟨u1, j + 1, by simp, by omega, d⟩, by omega⟩
        · rw [w64 (by omega) (by omega)]
          exact ⟨⟨i + 1, S, X, u1, by simp, by omega, hSi, hsg, hnd, hO, hI, (D.sel [2, 3, 1, 0] (Xs.mk d)).tail.tail⟩, by omega⟩
      repeat (first | (simp +decide only [SEM]) | (apply ldm d; (focus ((repeat (first | exact .h _ | refine .t _ _ ?_)); done)); (focus rfl)))
      refine fn20 (fun _ _ => rfl) (Deadline_ok hSl (D.sel [2] d) (fun hno w d => ?_) (fun y hy hk w d => ?_))
      all_goals repeat (simp +decide only [SEM])
      all_goals refine fn10 (fun _ _ => rfl) (Threads_ok hSl d fun tv w d => ?_)
      all_goals obtain ⟨qv, cv, rfl, -⟩ := Rw.shape d.1
      all_goals (have d := D.sel [1, 2, 3, 0] d)
      all_goals repeat (first | refine drw d fun w d => ?_ | (simp +decide only [SEM]) | refine qt d ?_ | refine qe_nil ?_ | refine qe_len ?_ | (apply qlm; (focus ((repeat (first | exact .h _ | refine .t _ _ ?_)); done)); (focus rfl)))
      all_goals refine fn10 (fun _ _ => rfl) (Count_ok d fun w d => ?_)
      all_goals repeat (first | (simp +decide only [SEM]) | refine qt d ?_ | refine ch d ?_)
      all_goals first | refine ⟨fun _ => ?_, fun h => by omega⟩ | refine ⟨fun h => by omega, fun _ => ?_⟩
      all_goals repeat (first | refine qe_nil ?_ | (apply qlm; (focus ((repeat (first | exact .h _ | refine .t _ _ ?_)); done)); (focus rfl)) | refine qe_op (fun _ _ => BinI_geq) ?_)
      all_goals refine fn20 (fun _ _ => rfl) (Blocked_ok hSl d fun w d => ?_)
      all_goals repeat (first | (simp +decide only [SEM]) | refine qt d ?_ | refine ch d ?_)
      all_goals simp only [hwx, beq_self_eq_true]
      all_goals refine ⟨fun _ => ?_, fun h => by cases h⟩
      · have htd : decide (0 ≤ wix th X) = false := decide_eq_false (by omega)
        repeat (first | (simp +decide only [SEM]) | refine qe_op (fun _ _ => BinI_geq) ?_)
        rw [htd]
        repeat (first | (simp +decide only [SEM]) | refine qt d ?_ | refine qe_nil ?_ | refine qe_len ?_ | (apply qlm; (focus ((repeat (first | exact .h _ | refine .t _ _ ?_)); done)); (focus rfl)))
        refine ⟨fun h => by omega, fun _ => ?_⟩
        exact lp qv cv q cq w (D.sel [1, 2, 0] d) hlen hsg
      · have htd : decide (0 ≤ wix th X) = true := decide_eq_true (by omega)
        have hyX : y < X.length := by omega
        have hdl : S[y].dl = X[y].dl := congrArg (fun c => c.2.1) (hsg.get hy hyX)
        obtain ⟨b1, c1, e⟩ := rw_ptr (sv := .slice q X.length cq) d (.t _ _ (.t _ _ (.h _))) (by omega)
        cases e
        repeat (first | (simp +decide only [SEM]) | refine qe_op (fun _ _ => BinI_geq) ?_)
        rw [htd]
        repeat (first | (simp +decide only [SEM]) | refine qt d ?_ | refine qe_nil ?_ | (apply qlm; (focus ((repeat (first | exact .h _ | refine .t _ _ ?_)); done)); (focus rfl)))
        rw [hwx] at hk
        rw [hk]
        repeat (first | (simp +decide only [SEM]) | refine qt d ?_ | refine qe_nil ?_ | refine qia (by first | omega | (simp; omega)) ?_ | (focus (apply ql1; (focus ((repeat (first | exact .h _ | refine .t _ _ ?_)); done)); (focus exact fun _ => rfl); (focus rfl); rotate_left; (focus (first | omega | (simp; done) | (simp; omega))))))
        rw [hdl]
        repeat (first | (simp +decide only [SEM]) | refine qe_nil ?_ | refine qe_len ?_ | (apply qlm; (focus ((repeat (first | exact .h _ | refine .t _ _ ?_)); done)); (focus rfl)))
        refine ⟨fun h => by omega, fun _ => ?_⟩
        exact lp qv cv _ _ w (D.sel [1, 2, 0] d) hlen hsg
    have hnx : (X.map (·.th)).Nodup := by rw [← hsg.ths]; exact hnd
    have hIS := hsg.igd hI
    have wk : ∀ (R : List Wk) (lv lv2 : Value) (w : World), R.length ≤ 65536 → D w0 (Rw 38 4 lv R.length (R.flatMap kc) :: Rw 95 4 lv2 R.length (R.flatMap kc) :: Ws b most (rmAll R S) :: Xs c most (rmAll R X) :: cel bo 53 [.int .i64 kd, .int .i64 th, .int .i64 ob, .int .i64 n, .slice qi it.length ci] :: L) w →
        FnV pg (.func (.func 21) #[] #[]) #[lv, lv2] (fun v => vK [v]) w := by
      intro R lv lv2 w hR d
      refine fn20 (fun _ _ => rfl) (same_ok hR d fun w d => ?_)
      exact fin w _ _ (Nat.le_trans (rmAll_len _ _) (by omega)) (hsg.all R) (rmAll_nd R hnd) (rmAll_ois R hO) (hI.all R) d.tail.tail
    repeat (first | (simp +decide only [SEM]) | (apply ldm d; (focus ((repeat (first | exact .h _ | refine .t _ _ ?_)); done)); (focus rfl)))
    refine ⟨fun h1 => ?_, fun h1 => ?_⟩
    · repeat (apply ldm d; (focus ((repeat (first | exact .h _ | refine .t _ _ ?_)); done)); (focus rfl))
      refine fn10 (fun _ _ => rfl) (itemsOf_ok (by omega) hOit (by simp [hm]) d fun iv w d => ?_)
      obtain ⟨qn, cn, rfl, -⟩ := Rw.shape d.1
      refine drw d fun w d => ?_
      have d1 : D w0 [cel bo 53 [.int .i64 kd, .int .i64 th, .int .i64 ob, .int .i64 n, .slice qi it.length ci]] w := D.only [1] d
      refine qt d1 ?_
      clear d1
      repeat (first | refine qe_nil ?_ | (apply qlm; (focus ((repeat (first | exact .h _ | refine .t _ _ ?_)); done)); (focus rfl)))
      have hbs : bst most S th it = bst most X th it := bst_sig hsg.ths
      have lp9 : ∀ (w : World) (S' X' : List Wt) (r : Bool), r = true → S'.length ≤ i + 1 → Sg S' X' → (S'.map (·.th)).Nodup → Ois w0 X' → Igd X' → D w0 (Rw 42 2 (.slice qn it.length cn) it.length (it.flatMap ic) :: Ws b most S' :: Xs c most X' :: cel bo 53 [.int .i64 kd, .int .i64 th, .int .i64 ob, .int .i64 n, .slice qi it.length ci] :: L) w →
          (LoopC [.int .i64 0] fun vK_4 vs => AllE <| UN vs fun v83 _ =>
            BinI .lss v83 (.int .i64 it.length) fun v84 =>
            Cnd v84 (IA 2 (.slice qn it.length cn) v83 fun v88 => FA v88 0 fun v89 => St 1 v89 (.int .i64 99) fun _ => BinI .add v83 (.int .i64 1) fun v90 => vK_4 [v90])
            (vK [.bool r])) w := by
        rintro w S' X' r rfl a1 a2 a3 a4 a5 d
        refine ⟨fun vs w' => ∃ (j : Nat) (J : List It), vs = [.int .i64 j] ∧ j ≤ it.length ∧ J.length = it.length ∧ D w0 (Rw 42 2 (.slice qn it.length cn) J.length (J.flatMap ic) :: Ws b most S' :: Xs c most X' :: cel bo 53 [.int .i64 kd, .int .i64 th, .int .i64 ob, .int .i64 n, .slice qi it.length ci] :: L) w', fun vs _ => match vs with | [.int _ j] => it.length - j.toNat | _ => 0, ⟨0, it, rfl, by omega, rfl, d⟩, ?_⟩
        clear d
        rintro _ w ⟨j, J, rfl, hj, hJ, d⟩ _
        simp only [UN]
        repeat (simp +decide only [SEM])
        refine ⟨fun hlt => ?_, fun hge => fin w S' X' a1 a2 a3 a4 a5 d.tail⟩
        refine rw_stf (S := J) (f := ic) (o := 0) (m := 1) (v := .int .i64 99) d (by omega) ⟨99, (J[j]'(by omega)).m⟩ (.h _) ic_len rfl (by omega) (ones rfl) rfl fun w d => ?_
        repeat (simp +decide only [SEM])
        rw [w64 (by omega) (by omega)]
        exact ⟨⟨j + 1, J.set j ⟨99, (J[j]'(by omega)).m⟩, by simp, by omega, by simp [hJ], d⟩, by omega⟩
      refine fn40 (fun _ _ => rfl) (Block_ok hSl (by omega) (by omega) (D.sel [2, 0] d) (fun hb w d => ?_) (fun hb sv' w d => ?_))
      all_goals refine ch (show D w0 [cel bo 53 [.int .i64 kd, .int .i64 th, .int .i64 ob, .int .i64 n, .slice qi it.length ci]] _ from D.only [2] d) ?_
      all_goals refine fn40 (fun _ _ => rfl) (RBlock_ok hXl (by omega) hOit (by show Old w0 ∈ _ :: _ :: _ :: L; simp [hm]) (D.sel [3] d) (fun hb2 w d => ?_) (fun hb2 w d => ?_))
      · repeat (simp +decide only [SEM])
        exact lp9 w S X _ (decide_eq_true hbs) (by omega) hsg hnd hO hI (D.sel [2, 1, 0, 3] d)
      · exact absurd (hbs.trans hb2) hb
      · exact absurd (hbs.symm.trans hb) hb2
      · obtain ⟨hb0, hbw, hbl⟩ := bst0 hb
        have h8 : it.length ≤ 8 := by
          unfold bst at hb
          split at hb
          · omega
          · omega
        repeat (simp +decide only [SEM])
        refine lp9 w _ _ _ (decide_eq_true trivial) (by rw [List.length_append]; simp; omega) (hsg.snoc (x := ⟨th, n, sv', it⟩) (y := ⟨th, n, .slice qi it.length ci, it⟩) rfl) ?_ (fun x hx => ?_) (fun x hx => ?_) (D.sel [2, 1, 0, 3] d)
        · rw [List.map_append, List.nodup_append]
          refine ⟨hnd, by simp, ?_⟩
          intro a ha b hb e
          obtain ⟨x, hx, rfl⟩ := List.mem_map.1 ha
          simp at hb
          exact wix_none.1 hbw x hx (e.trans hb)
        · rcases List.mem_append.1 hx with hx | hx
          · exact hO x hx
          · rw [List.mem_singleton.1 hx]; exact hOit
        · rcases List.mem_append.1 hx with hx | hx
          · exact hI x hx
          · rw [List.mem_singleton.1 hx]; exact ⟨(by show it.length ≤ 12; omega), hIit⟩
    · refine ⟨fun h2 => ?_, fun h2 => ?_⟩
      · have d1 : D w0 [cel bo 53 [.int .i64 kd, .int .i64 th, .int .i64 ob, .int .i64 n, .slice qi it.length ci]] w := D.only [0] d
        refine drw d fun w d => ?_
        have d1 : D w0 [cel bo 53 [.int .i64 kd, .int .i64 th, .int .i64 ob, .int .i64 n, .slice qi it.length ci]] w := D.only [0] d
        refine qt d1 ?_
        clear d1
        repeat (first | refine qe_nil ?_ | (apply qlm; (focus ((repeat (first | exact .h _ | refine .t _ _ ?_)); done)); (focus rfl)))
        have hpp : (fun y : It => !decide (iand .i64 y.m n = 0)) = fun y : It => !decide (iand .i64 n y.m = 0) := by funext y; rw [iand_comm]
        refine fn30 (fun _ _ => rfl) (Tell_ok hSl (fun x hx => by have := (hIS x hx).1; omega) (D.sel [1] d) fun lv w d => ?_)
        refine ch (show D w0 [cel bo 53 [.int .i64 kd, .int .i64 th, .int .i64 ob, .int .i64 n, .slice qi it.length ci]] _ from D.only [2] d) ?_
        refine fn40 (fun _ _ => rfl) (On_ok (can := false) rfl (fun x hx => (hI x hx).2) hXl (fun x hx => by have := (hI x hx).1; omega) hO (by show Old w0 ∈ _ :: _ :: _ :: L; simp [hm]) (D.sel [3] d) fun lv2 w d => ?_)
        simp only [Bool.false_eq_true, if_false, hpp] at d
        rw [drAll_rm _ hnd, hsg.tel] at d
        exact wk _ _ _ w (Nat.le_trans telS_len hXl) (D.sel [3, 0, 2, 1] d)
      · refine ⟨fun h3 => ?_, fun h3 => ?_⟩
        · refine drw d fun w d => ?_
          have d1 : D w0 [cel bo 53 [.int .i64 kd, .int .i64 th, .int .i64 ob, .int .i64 n, .slice qi it.length ci]] w := D.only [0] d
          refine qt d1 ?_
          clear d1
          repeat (first | refine qe_nil ?_ | (apply qlm; (focus ((repeat (first | exact .h _ | refine .t _ _ ?_)); done)); (focus rfl)))
          refine fn20 (fun _ _ => rfl) (Expire_ok hSl (D.sel [1] d) fun P lv w hP d => ?_)
          refine ch (show D w0 [cel bo 53 [.int .i64 kd, .int .i64 th, .int .i64 ob, .int .i64 n, .slice qi it.length ci]] _ from D.only [2] d) ?_
          refine fn20 (fun _ _ => rfl) (RExpire_ok hXl hnx hO (D.sel [3] d) fun R lv2 w hR d => ?_)
          have hPR := hsg.late hP hR
          have hRl : (R.map lateW).length ≤ 65536 := by
            rw [List.length_map, hR.1.length_eq]
            exact Nat.le_trans (List.length_filter_le _ _) hXl
          rw [drAll_rm _ hnd, hPR] at d
          exact wk _ _ _ w hRl (D.sel [3, 0, 2, 1] d)
        · refine ⟨fun h4 => ?_, fun h4 => ?_⟩
          · refine drw d fun w d => ?_
            have d1 : D w0 [cel bo 53 [.int .i64 kd, .int .i64 th, .int .i64 ob, .int .i64 n, .slice qi it.length ci]] w := D.only [0] d
            refine qt d1 ?_
            clear d1
            repeat (first | refine qe_nil ?_ | (apply qlm; (focus ((repeat (first | exact .h _ | refine .t _ _ ?_)); done)); (focus rfl)))
            refine fn20 (fun _ _ => rfl) (Cancel_ok hSl (fun x hx => by have := (hIS x hx).1; omega) (D.sel [1] d) fun lv w d => ?_)
            refine ch (show D w0 [cel bo 53 [.int .i64 kd, .int .i64 th, .int .i64 ob, .int .i64 n, .slice qi it.length ci]] _ from D.only [2] d) ?_
            refine fn40 (fun _ _ => rfl) (On_ok (can := true) rfl (fun x hx => (hI x hx).2) hXl (fun x hx => by have := (hI x hx).1; omega) hO (by show Old w0 ∈ _ :: _ :: _ :: L; simp [hm]) (D.sel [3] d) fun lv2 w d => ?_)
            simp only [if_true] at d
            rw [drAll_rm _ hnd, hsg.tel] at d
            exact wk _ _ _ w (Nat.le_trans telS_len hXl) (D.sel [3, 0, 2, 1] d)
          · refine ⟨fun h5 => ?_, fun h5 => ?_⟩
            · repeat (apply ldm d; (focus ((repeat (first | exact .h _ | refine .t _ _ ?_)); done)); (focus rfl))
              refine fn20 (fun _ _ => rfl) (Forget_ok hSl (D.sel [1] d) fun w d => ?_)
              repeat (first | (simp +decide only [SEM]) | (apply ldm d; (focus ((repeat (first | exact .h _ | refine .t _ _ ?_)); done)); (focus rfl)))
              refine fn20 (fun _ _ => rfl) (RFind_ok hXl (D.sel [2] d) fun w d => ?_)
              rw [dr_rm hnd] at d
              have hw := wix_le th X
              rw [hsg.wix th]
              have fin2 : ∀ w, D w0 (Xs c most (rmT th X) :: Ws b most (rmT th S) :: cel bo 53 [.int .i64 kd, .int .i64 th, .int .i64 ob, .int .i64 n, .slice qi it.length ci] :: L) w → vK [.bool true] w := fun w d =>
                fin w _ _ (Nat.le_trans rmT_len (by omega)) (hsg.rm th) (nodup_filter hnd) hO.rm (hI.all [⟨th, 0, 0, 0⟩]) d.swap
              by_cases hwn : wix th X = -1
              · have hd1 : decide (0 ≤ wix th X) = false := decide_eq_false (by omega)
                rw [if_pos hwn]
                repeat (simp +decide only [SEM])
                rw [hd1]
                repeat (simp +decide only [SEM])
                refine ⟨fun _ => ?_, fun h => by omega⟩
                repeat (apply ldm d; (focus ((repeat (first | exact .h _ | refine .t _ _ ?_)); done)); (focus rfl))
                refine fn20 (fun _ _ => rfl) (RDrop_ok hXl hO.one d fun w d => ?_)
                exact fin2 w d
              · have hd1 : decide (0 ≤ wix th X) = true := decide_eq_true (by omega)
                rw [if_neg hwn]
                repeat (simp +decide only [SEM])
                rw [hd1]
                repeat (simp +decide only [SEM])
                refine ⟨fun h => by omega, fun _ => ?_⟩
                repeat (apply ldm d; (focus ((repeat (first | exact .h _ | refine .t _ _ ?_)); done)); (focus rfl))
                refine fn20 (fun _ _ => rfl) (RDrop_ok hXl hO.one d fun w d => ?_)
                exact fin2 w d
            · exact fin w S X (by omega) hsg hnd hO hI (D.sel [1, 2] d)
  · refine fn10 (fun _ _ => rfl) (New_no hmr ?_)
    repeat (simp +decide only [SEM])
    exact ⟨fun h1 => ⟨fun h2 => fn00 (fun _ _ => rfl) (aw w d), fun h2 => absurd ⟨by omega, by omega⟩ hmr⟩, fun h1 => fn00 (fun _ _ => rfl) (aw w d)⟩
theorem plays_law {n : Nat} (h : OldSl pg w0 53 5 lv n) (hmI : I64 most) (hm : Old w0 ∈ L) (d : D w0 L w) (k : ∀ w', D w0 L w' → K (.bool true) w') :
    Cl pg 7 #[.int .i64 most, lv] K w := by
  obtain ⟨l, hl, hop, ho, hn⟩ := steps2_of h
  exact plays_ok hmI (by omega) hop ho hm d k
end
end Go.Proofs.Ythjkmgckkacegaa
