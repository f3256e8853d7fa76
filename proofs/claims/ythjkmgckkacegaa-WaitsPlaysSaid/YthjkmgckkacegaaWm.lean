/- Waits: the reference's own: who is woken. -/
import Derived.Test.YthjkmgckkacegaaWl
set_option maxRecDepth 100000
set_option maxHeartbeats 8000000
namespace Go.Proofs.Ythjkmgckkacegaa
open Go Go.Jac
theorem fidx_eq {α : Type} (q : α → Bool) (l : List α) : fidx q l = (match l.findIdx? q with | some i => (i : Int) | none => -1) := by
  unfold fidx
  split
  · rename_i h
    rw [List.findIdx?_eq_some_of_exists (List.findIdx_lt_length.1 h)]
  · rename_i h
    have : l.findIdx? q = none := by
      rw [List.findIdx?_eq_none_iff]
      intro x hx
      have h2 := mt List.findIdx_lt_length.2 h
      cases hq : q x with
      | false => rfl
      | true => exact absurd ⟨x, hx, hq⟩ h2
    rw [this]
theorem fidx_snoc {α : Type} (q : α → Bool) (l : List α) (x : α) : fidx q (l ++ [x]) = if 0 ≤ fidx q l then fidx q l else if q x then (l.length : Int) else -1 := by
  rw [fidx_eq, fidx_eq, List.findIdx?_append]
  cases h : l.findIdx? q with
  | some i => simp
  | none =>
    have h0 : ¬ (0 : Int) ≤ -1 := by decide
    simp only [Option.none_or, List.findIdx?_singleton, h0, if_false]
    cases q x <;> simp
theorem iand_all {m : Int} (h : I64 m) : iand .i64 m (-1) = m := by
  unfold I64 at h
  have e64 : (2 : Nat) ^ 64 = 18446744073709551616 := by decide
  unfold iand
  rw [BitVec.toNat_and, ofInt_nat, ofInt_nat, show ((-1 : Int) % 18446744073709551616).toNat = 2 ^ 64 - 1 from by decide, Nat.and_two_pow_sub_one_eq_mod, IntKind.wrap_i64, e64]
  omega
def rmAll (l : List Wk) (X : List Wt) : List Wt := l.foldl (fun X x => rmT x.th X) X
theorem rmAll_len (l : List Wk) : ∀ X, (rmAll l X).length ≤ X.length := by
  induction l with
  | nil => intro X; exact Nat.le_refl _
  | cons x r ih => intro X; exact Nat.le_trans (ih _) rmT_len
theorem rmAll_ois {w0 : World} (l : List Wk) : ∀ {X : List Wt}, Ois w0 X → Ois w0 (rmAll l X) := by
  induction l with
  | nil => intro X h; exact h
  | cons x r ih => intro X h; exact ih h.rm
theorem rmAll_snoc (l : List Wk) (x : Wk) (X : List Wt) : rmAll (l ++ [x]) X = rmT x.th (rmAll l X) := by unfold rmAll; rw [List.foldl_append]; rfl
theorem telS_snoc {o st sh : Int} {p : It → Bool} {X : List Wt} {i : Nat} (hi : i < X.length) : telS o p st sh (X.take (i + 1)) = telS o p st sh (X.take i) ++ (match X[i].it.findIdx? (fun y => decide (y.o = o) && p y) with | some j => [⟨X[i].th, j, st, sh⟩] | none => []) := by
  unfold telS
  rw [ons_take hi, List.map_append]
  have hh : hitI o p X[i] = X[i].it.findIdx? (fun y => decide (y.o = o) && p y) := rfl
  rw [hh]
  cases List.findIdx? (fun y : It => decide (y.o = o) && p y) X[i].it <;> simp [toWk]
section
variable {w0 w : World} {L : List HP} {K : Value → WP} {b : Nat} {most : Int} {X : List Wt} {sv v lv : Value} {it : List It}
/-- The last steps of 'On': those told wait no more. -/
theorem ontail_ok {R : List Wk} {q : Option Addr} {c : Nat} (hX : X.length ≤ 65536) (hR : R.length ≤ 65536) (hO : Ois w0 X) (d : D w0 (Rw 95 4 (.slice q R.length c) R.length (R.flatMap kc) :: Xs b most X :: L) w)
    (k : ∀ w', D w0 (Rw 95 4 (.slice q R.length c) R.length (R.flatMap kc) :: Xs b most (rmAll R X) :: L) w' → K (.slice q R.length c) w') :
    (LoopC [(.int .i64 0)] fun vK_3 vs => AllE <|
  UN vs fun v13 _ =>
  LenS (.slice q R.length c) fun v128 =>
  BinI .lss v13 v128 fun v129 =>
  Cnd v129 (IA 4 (.slice q R.length c) v13 fun v135 =>
  FA v135 0 fun v136 =>
  Ld1 v136 fun v137 =>
  FnV pg (.func (.func 25) #[] #[]) #[.pointer (some ⟨b, 0, none⟩), v137] fun _ =>
  BinI .add v13 (.int .i64 1) fun v131 =>
  vK_3 [v131])
  (K (.slice q R.length c))) w := by
  refine ⟨fun vs w' => ∃ (i : Nat), vs = [.int .i64 i] ∧ i ≤ R.length ∧ D w0 (Rw 95 4 (.slice q R.length c) R.length (R.flatMap kc) :: Xs b most (rmAll (R.take i) X) :: L) w', fun vs _ => match vs with | [.int _ i] => R.length - i.toNat | _ => 0, ⟨0, rfl, by omega, d⟩, ?_⟩
  clear d
  rintro _ w ⟨i, rfl, hi, d⟩ _
  simp only [UN]
  repeat (simp +decide only [SEM])
  refine ⟨fun hlt => ?_, fun hge => ?_⟩
  · have hlt' : i < R.length := by omega
    repeat (focus (apply rw_fld d; (focus ((repeat (first | exact .h _ | refine .t _ _ ?_)); done)); (focus exact fun _ => rfl); (focus rfl); rotate_left; (focus (first | omega | (simp; done) | (simp; omega)))))
    refine fn20 (fun _ _ => rfl) (RDrop_ok (Nat.le_trans (rmAll_len _ _) hX) (rmAll_ois _ hO).one d.swap fun w d => ?_)
    repeat (simp +decide only [SEM])
    rw [w64 (by omega) (by omega)]
    refine ⟨⟨i + 1, by simp, by omega, ?_⟩, by show R.length - ((i : Int) + 1).toNat < R.length - (i : Int).toNat; omega⟩
    rw [List.take_succ_eq_append_getElem hlt', rmAll_snoc]
    exact d.swap
  · have hi' : i = R.length := by omega
    subst hi'
    rw [List.take_length] at d
    exact k _ d
theorem On_ok {o sh : Int} {can : Bool} {p : It → Bool} (hp : p = if can then (fun _ => true) else fun y => !decide (iand .i64 y.m sh = 0)) (hI : ∀ x ∈ X, ∀ y ∈ x.it, I64 y.m) (hX : X.length ≤ 65536) (hi : ∀ x ∈ X, x.it.length ≤ 1048576) (hO : Ois w0 X) (hm2 : Old w0 ∈ L) (d : D w0 (Xs b most X :: L) w)
    (k : ∀ lv w', D w0 (Rw 95 4 lv (telS o p (if can then -23 else 0) (if can then 0 else sh) X).length ((telS o p (if can then -23 else 0) (if can then 0 else sh) X).flatMap kc) :: Xs b most (rmAll (telS o p (if can then -23 else 0) (if can then 0 else sh) X) X) :: L) w' → K lv w') :
    Cl pg 22 #[.pointer (some ⟨b, 0, none⟩), .int .i64 o, .int .i64 sh, .bool can] K w := by
  refine V.jacinthref16_Waits_On_ok ?_
  unfold V.jacinthref16_Waits_On
  obtain ⟨v, d⟩ := Xs.out d
  obtain ⟨q, c, rfl, -⟩ := Rw.shape d.swap.1
  generalize hst : (if can then (-23 : Int) else 0) = st at *
  generalize hsh : (if can then (0 : Int) else sh) = sh' at *
  refine ⟨fun vs w' => ∃ (i : Nat) (lv : Value), vs = [lv, .int .i64 i] ∧ i ≤ X.length ∧ D w0 (Rw 95 4 lv (telS o p st sh' (X.take i)).length ((telS o p st sh' (X.take i)).flatMap kc) :: cel b 62 [.slice q X.length c, .int .i64 most] :: Rw 71 3 (.slice q X.length c) X.length (X.flatMap wc) :: L) w', fun vs _ => match vs with | [_, .int _ i] => X.length - i.toNat | _ => 0, ⟨0, _, rfl, by omega, ⟨Rw.nil _ _ d.1, d.2⟩⟩, ?_⟩
  clear d
  rintro _ w ⟨i, lv, rfl, hi', d⟩ _
  simp only [UN]
  repeat (first | (simp +decide only [SEM]) | (apply ldm d; (focus ((repeat (first | exact .h _ | refine .t _ _ ?_)); done)); (focus rfl)))
  refine ⟨fun hlt => ?_, fun hge => ?_⟩
  · have hlt' : i < X.length := by omega
    have hOi := hO _ (List.getElem_mem hlt')
    have hIi := hI _ (List.getElem_mem hlt')
    have hii := hi _ (List.getElem_mem hlt')
    have hts := telS_snoc (o := o) (p := p) (st := st) (sh := sh') hlt'
    have htl : (telS o p st sh' (X.take i)).length ≤ i := Nat.le_trans telS_len (by rw [List.length_take]; omega)
    intro vK hvK
    have fin : ∀ w, D w0 (Rw 95 4 lv (telS o p st sh' (X.take i)).length ((telS o p st sh' (X.take i)).flatMap kc) :: cel b 62 [.slice q X.length c, .int .i64 most] :: Rw 71 3 (.slice q X.length c) X.length (X.flatMap wc) :: L) w → vK [.int .i64 (fidx (fun y : It => decide (y.o = o) && p y) X[i].it)] w := by
      clear d
      intro w d
      refine hvK _ _ ?_
      intro _
      simp only [UN]
      rw [fidx_eq]
      cases hf : X[i].it.findIdx? (fun y : It => decide (y.o = o) && p y) with
      | none =>
        rw [hf, List.append_nil] at hts
        repeat (simp +decide only [SEM])
        rw [w64 (by omega) (by omega)]
        exact ⟨⟨i + 1, lv, by simp, by omega, by rw [hts]; exact d⟩, by omega⟩
      | some j =>
        rw [hf] at hts
        have nxt : ∀ lv' w, D w0 (Rw 95 4 lv' ((telS o p st sh' (X.take i)).length + 1) ((telS o p st sh' (X.take i)).flatMap kc ++ kc ⟨X[i].th, j, st, sh'⟩) :: cel b 62 [.slice q X.length c, .int .i64 most] :: Rw 71 3 (.slice q X.length c) X.length (X.flatMap wc) :: L) w → (∃ (i' : Nat) (lv : Value), [lv', .int .i64 ((i : Int) + 1)] = [lv, .int .i64 i'] ∧ i' ≤ X.length ∧ D w0 (Rw 95 4 lv (telS o p st sh' (X.take i')).length ((telS o p st sh' (X.take i')).flatMap kc) :: cel b 62 [.slice q X.length c, .int .i64 most] :: Rw 71 3 (.slice q X.length c) X.length (X.flatMap wc) :: L) w) ∧ X.length - ((i : Int) + 1).toNat < X.length - i := fun lv' w d =>
          ⟨⟨i + 1, lv', by simp, by omega, by rw [hts, List.length_append, List.flatMap_append, List.flatMap_singleton]; exact d⟩, by omega⟩
        cases can
        · simp only [if_neg Bool.false_ne_true] at hst hsh
          subst hst hsh
          repeat (simp +decide only [SEM])
          refine ⟨fun _ => ⟨fun _ => ?_, fun h => by omega⟩, fun h => by omega⟩
          repeat (first | (apply ldm d; (focus ((repeat (first | exact .h _ | refine .t _ _ ?_)); done)); (focus rfl)) | (((repeat (refine bld_c rfl rfl (by simp) ?_; simp only [List.set_cons_zero, List.set_cons_succ])); refine bld_n ?_)) | refine bsl1 (by first | rfl | (simp only [cells_agg, cells_int, cells_bool, cells_ptr, cells_sl, cells_map, cells_fn, List.drop_succ_cons, List.drop_zero, List.take_succ_cons, List.take_zero, Nat.zero_add, Nat.reduceAdd, Int.toNat_natCast, Int.toNat_zero]; rfl)) rfl d (by decide) (by decide) fun bn w d => ?_ | (focus (apply rw_fld d; (focus ((repeat (first | exact .h _ | refine .t _ _ ?_)); done)); (focus exact fun _ => rfl); (focus rfl); rotate_left; (focus (first | omega | (simp; done) | (simp; omega))))))
          refine d_app (m := 1) (D.sel [1] d) (src_of (gc1 (D.sel [1] d)) rfl (ones rfl) 1) rfl (by omega) (by omega) (by omega) (ones rfl) fun lv' w d => ?_
          repeat (simp +decide only [SEM])
          rw [w64 (by omega) (by omega)]
          exact nxt _ _ d.tail2
        · simp only [if_pos] at hst hsh
          subst hst hsh
          repeat (simp +decide only [SEM])
          refine ⟨fun _ => ?_, fun h => by omega⟩
          repeat (first | (apply ldm d; (focus ((repeat (first | exact .h _ | refine .t _ _ ?_)); done)); (focus rfl)) | (((repeat (refine bld_c rfl rfl (by simp) ?_; simp only [List.set_cons_zero, List.set_cons_succ])); refine bld_n ?_)) | refine bsl1 (by first | rfl | (simp only [cells_agg, cells_int, cells_bool, cells_ptr, cells_sl, cells_map, cells_fn, List.drop_succ_cons, List.drop_zero, List.take_succ_cons, List.take_zero, Nat.zero_add, Nat.reduceAdd, Int.toNat_natCast, Int.toNat_zero]; rfl)) rfl d (by decide) (by decide) fun bn w d => ?_ | (focus (apply rw_fld d; (focus ((repeat (first | exact .h _ | refine .t _ _ ?_)); done)); (focus exact fun _ => rfl); (focus rfl); rotate_left; (focus (first | omega | (simp; done) | (simp; omega))))))
          refine d_app (m := 1) (D.sel [1] d) (src_of (gc1 (D.sel [1] d)) rfl (ones rfl) 1) rfl (by omega) (by omega) (by omega) (ones rfl) fun lv' w d => ?_
          repeat (simp +decide only [SEM])
          rw [w64 (by omega) (by omega)]
          exact nxt _ _ d.tail2
    cases can
    · simp only [if_neg Bool.false_ne_true] at hp
      repeat (simp +decide only [SEM])
      refine ⟨fun h1 => ?_, fun h1 => ?_⟩
      · repeat (first | (apply ldm d; (focus ((repeat (first | exact .h _ | refine .t _ _ ?_)); done)); (focus rfl)) | (focus (apply rw_elN d; (focus ((repeat (first | exact .h _ | refine .t _ _ ?_)); done)); (focus exact fun _ => rfl); rotate_left; (focus (first | omega | (simp; done) | (simp; omega))))))
        refine fn30 (fun _ _ => rfl) (item_ok hOi hii (by simp [hm2]) d fun w d => ?_)
        have e : (fun y : It => decide (y.o = o) && (decide (sh = -1) || !decide (iand .i64 y.m sh = 0))) = fun y : It => decide (y.o = o) && p y := by rw [hp]; funext y; simp [h1]
        rw [e]
        exact fin w d
      · have h1 : sh = -1 := by simpa using h1
        refine ⟨fun vs w' => ∃ (j : Nat), vs = [.int .i64 (fidx (fun y : It => decide (y.o = o) && p y) (X[i].it.take j)), .int .i64 j] ∧ j ≤ X[i].it.length ∧ D w0 (Rw 95 4 lv (telS o p st sh' (X.take i)).length ((telS o p st sh' (X.take i)).flatMap kc) :: cel b 62 [.slice q X.length c, .int .i64 most] :: Rw 71 3 (.slice q X.length c) X.length (X.flatMap wc) :: L) w', fun vs _ => match vs with | [_, .int _ j] => X[i].it.length - j.toNat | _ => 0, ⟨0, rfl, by omega, d⟩, ?_⟩
        clear d
        rintro _ w ⟨j, rfl, hj, d⟩ _
        simp only [UN]
        repeat (first | (simp +decide only [SEM]) | (apply ldm d; (focus ((repeat (first | exact .h _ | refine .t _ _ ?_)); done)); (focus rfl)) | (focus (apply rw_fld d; (focus ((repeat (first | exact .h _ | refine .t _ _ ?_)); done)); (focus exact fun _ => rfl); (focus rfl); rotate_left; (focus (first | omega | (simp; done) | (simp; omega))))))
        refine hOi.len ?_
        repeat (simp +decide only [SEM])
        refine ⟨fun hlt2 => ?_, fun hge2 => ?_⟩
        · have hlt2' : j < X[i].it.length := by omega
          have hfs : fidx (fun y : It => decide (y.o = o) && p y) (X[i].it.take (j + 1)) = if 0 ≤ fidx (fun y : It => decide (y.o = o) && p y) (X[i].it.take j) then fidx (fun y : It => decide (y.o = o) && p y) (X[i].it.take j) else if (decide (X[i].it[j].o = o) && p X[i].it[j]) = true then ((X[i].it.take j).length : Int) else -1 := by rw [List.take_succ_eq_append_getElem hlt2', fidx_snoc]
          rw [List.length_take, Nat.min_eq_left (by omega)] at hfs
          have hpj : p X[i].it[j] = !decide (X[i].it[j].m = 0) := by
            rw [hp, h1]
            show (!decide (iand .i64 X[i].it[j].m (-1) = 0)) = _
            rw [iand_all (hIi _ (List.getElem_mem _))]
          rw [hpj] at hfs
          skip
          refine ⟨fun h2 => ?_, fun h2 => ?_⟩
          · rw [if_neg (by omega)] at hfs
            repeat (first | (apply ldm d; (focus ((repeat (first | exact .h _ | refine .t _ _ ?_)); done)); (focus rfl)) | (focus (apply rw_fld d; (focus ((repeat (first | exact .h _ | refine .t _ _ ?_)); done)); (focus exact fun _ => rfl); (focus rfl); rotate_left; (focus (first | omega | (simp; done) | (simp; omega))))))
            refine hOi.fld (x := .int .i64 X[i].it[j].o) (by omega) hlt2 d (by simp [hm2]) (by simp [ic]) ?_
            repeat (simp +decide only [SEM])
            refine ⟨fun h3 => ?_, fun h3 => ?_⟩
            · repeat (first | (apply ldm d; (focus ((repeat (first | exact .h _ | refine .t _ _ ?_)); done)); (focus rfl)) | (focus (apply rw_fld d; (focus ((repeat (first | exact .h _ | refine .t _ _ ?_)); done)); (focus exact fun _ => rfl); (focus rfl); rotate_left; (focus (first | omega | (simp; done) | (simp; omega))))))
              refine hOi.fld (x := .int .i64 X[i].it[j].m) (by omega) hlt2 d (by simp [hm2]) (by simp [ic]) ?_
              repeat (simp +decide only [SEM])
              refine ⟨fun h4 => ?_, fun h4 => ?_⟩
              · rw [w64 (by omega) (by omega)]
                exact ⟨⟨j + 1, by rw [hfs]; simp [h3, h4], by omega, d⟩, by omega⟩
              · rw [w64 (by omega) (by omega)]
                refine ⟨⟨j + 1, ?_, by omega, d⟩, by omega⟩
                rw [hfs]
                have : fidx (fun y : It => decide (y.o = o) && p y) (X[i].it.take j) = -1 := by have := fidx_le (fun y : It => decide (y.o = o) && p y) (X[i].it.take j); omega
                simp [h3, h4, this]
            · rw [w64 (by omega) (by omega)]
              refine ⟨⟨j + 1, ?_, by omega, d⟩, by omega⟩
              rw [hfs]
              have : fidx (fun y : It => decide (y.o = o) && p y) (X[i].it.take j) = -1 := by have := fidx_le (fun y : It => decide (y.o = o) && p y) (X[i].it.take j); omega
              simp [h3, this]
          · rw [if_pos (by omega)] at hfs
            rw [w64 (by omega) (by omega)]
            exact ⟨⟨j + 1, by rw [hfs]; simp, by omega, d⟩, by omega⟩
        · have hj' : j = X[i].it.length := by omega
          subst hj'
          rw [List.take_length]
          exact fin w d
    · simp only [if_pos] at hp
      repeat (first | (simp +decide only [SEM]) | (apply ldm d; (focus ((repeat (first | exact .h _ | refine .t _ _ ?_)); done)); (focus rfl)) | (focus (apply rw_elN d; (focus ((repeat (first | exact .h _ | refine .t _ _ ?_)); done)); (focus exact fun _ => rfl); rotate_left; (focus (first | omega | (simp; done) | (simp; omega))))))
      refine fn30 (fun _ _ => rfl) (item_ok hOi hii (by simp [hm2]) d fun w d => ?_)
      have e : (fun y : It => decide (y.o = o) && (decide ((-1 : Int) = -1) || !decide (iand .i64 y.m (-1) = 0))) = fun y : It => decide (y.o = o) && p y := by rw [hp]; funext y; simp
      rw [e]
      exact fin w d
  · have hi2 : i = X.length := by omega
    subst hi2
    rw [List.take_length] at d
    obtain ⟨q2, c2, rfl, -⟩ := Rw.shape d.1
    exact ontail_ok hX (Nat.le_trans telS_len hX) hO (D.swap (Xs.mk (D.sel [1, 2, 0] d))) fun w' d' => k _ _ d'
end
end Go.Proofs.Ythjkmgckkacegaa
