/- Waits: the arguments' items; the fixed answer; the law of the first item. -/
import Derived.Test.YthjkmgckkacegaaWd
import Derived.Test.YthjkmgckkacegaaSm
import Derived.Test.YthjkmgckkacegaaR
set_option maxRecDepth 100000
set_option maxHeartbeats 4000000
namespace Go.Proofs.Ythjkmgckkacegaa
open Go Go.Jac
section
variable {w0 w : World} {L : List HP} {K : Value → WP} {b : Nat} {most : Int} {S : List Wt} {sv iv lv : Value} {it l : List It}
theorem itemsOf_ok (hl : l.length ≤ 1048576) (ho : OldL w0 2 ic lv l) (hm : Old w0 ∈ L) (d : D w0 L w)
    (k : ∀ sv' w', D w0 (Rw 42 2 sv' l.length (l.flatMap ic) :: L) w' → K sv' w') : Cl pg 11 #[lv] K w := by
  refine V.jacinthlaw16_itemsOf_ok ?_
  unfold V.jacinthlaw16_itemsOf
  refine ho.len ?_
  refine ⟨fun vs w => ∃ (i : Nat) (sv : Value), vs = [sv, .int .i64 i] ∧ i ≤ l.length ∧ D w0 (Rw 42 2 sv (l.take i).length ((l.take i).flatMap ic) :: L) w, fun vs _ => match vs with | [_, .int _ i] => l.length - i.toNat | _ => 0, ⟨0, _, rfl, by omega, ⟨Rw.nil _ _ d.1, d.2⟩⟩, ?_⟩
  rintro _ w ⟨i, sv, rfl, hi, d⟩ _
  simp only [UN]
  repeat (simp +decide only [SEM])
  refine ⟨fun hlt => ?_, fun hge => ?_⟩
  · have hlt' : i < l.length := by omega
    refine ho.ia (by omega) hlt fun a ha => ?_
    simp only [Int.toNat_natCast] at ha
    refine old_ldN (ic l[i]) d (by simp [hm]) rfl ha ?_
    refine d_new _ d fun bx w d => ?_
    refine stw0 d rfl rfl (ones rfl) fun w d => ?_
    simp only [cells_agg, List.toList_toArray] at d
    repeat (first | (simp +decide only [SEM]) | (apply ldm d; (focus ((repeat (first | exact .h _ | refine .t _ _ ?_)); done)); (focus rfl)) | (((repeat (refine bld_c rfl rfl (by simp) ?_; simp only [List.set_cons_zero, List.set_cons_succ])); refine bld_n ?_)) | refine bsl1 (by first | rfl | (simp only [cells_agg, cells_int, cells_bool, cells_ptr, cells_sl, cells_map, cells_fn, List.drop_succ_cons, List.drop_zero, List.take_succ_cons, List.take_zero, Nat.zero_add, Nat.reduceAdd, Int.toNat_natCast, Int.toNat_zero]; rfl)) rfl d (by decide) (by decide) fun bn w d => ?_)
    refine d_app (m := 1) (D.sel [2] d) (src_of (gc1 (D.sel [2] d)) rfl (ones rfl) 1) rfl (by omega) (by rw [List.length_take]; omega) (by rw [List.length_take]; omega) (ones rfl) fun sv' w d => ?_
    repeat (simp +decide only [SEM])
    rw [w64 (by omega) (by omega)]
    refine ⟨⟨i + 1, sv', by simp, by omega, ?_⟩, by show l.length - ((i : Int) + 1).toNat < l.length - (i : Int).toNat; omega⟩
    rw [List.take_succ_eq_append_getElem hlt', List.length_append, List.flatMap_append, List.flatMap_singleton]
    exact d.tail2.tail2
  · have e : l.take i = l := List.take_of_length_le (by omega)
    rw [e] at d
    exact k _ _ d
theorem awake_ok (d : D w0 L w) (k : ∀ w', D w0 L w' → K (.bool true) w') : Cl pg 9 #[] K w := by
  refine V.jacinthlaw16_awake_ok ?_
  unfold V.jacinthlaw16_awake
  refine fn10 (fun _ _ => rfl) (New_ok (by omega) d fun b w d => ?_)
  repeat (first | (simp +decide only [SEM]) | (((repeat (refine bld_c rfl rfl (by simp) ?_; simp only [List.set_cons_zero, List.set_cons_succ])); refine bld_n ?_)))
  refine d_bsl [.int .i64 5, .int .i64 1, .int .i64 6, .int .i64 2] d (by decide) (by kernel_rfl) fun bi w d => ?_
  have d1 : D w0 (Rw 42 2 (.slice (some ⟨bi, 0, none⟩) 2 2) ([⟨5, 1⟩, ⟨6, 2⟩] : List It).length (([⟨5, 1⟩, ⟨6, 2⟩] : List It).flatMap ic) :: Ws b 4 [] :: L) w := ⟨Rw.mk (junk := []) (cs := [.int .i64 5, .int .i64 1, .int .i64 6, .int .i64 2]) d.1 (Nat.le_refl _) rfl rfl, d.2⟩
  refine fn40 (fun _ _ => rfl) (Block_ok (by simp) (by simp) (by omega) d1.swap (fun h => absurd rfl h) fun _ sv' w d => ?_)
  repeat (simp +decide only [SEM])
  refine fn30 (fun _ _ => rfl) (Tell_ok (by simp) (by simp) d fun lv w d => ?_)
  have e1 : telS 6 (fun y => !decide (iand .i64 2 y.m = 0)) 0 2 ([] ++ [⟨3, 10, sv', [⟨5, 1⟩, ⟨6, 2⟩]⟩]) = [⟨3, 1, 0, 2⟩] := by kernel_rfl
  rw [e1] at d
  have e2 : drAll [⟨3, 1, 0, 2⟩] ([] ++ [⟨3, 10, sv', [⟨5, 1⟩, ⟨6, 2⟩]⟩]) = [] := by kernel_rfl
  rw [e2] at d
  obtain ⟨b1, c1, cs, rfl, g, hc⟩ := rec_at (i := (0 : Int)) kc_len d.swap (by omega) (by simp)
  repeat (first | (simp +decide only [SEM]) | (((repeat (refine bld_c rfl rfl (by simp) ?_; simp only [List.set_cons_zero, List.set_cons_succ])); refine bld_n ?_)) | (focus (apply rw_elN d; (focus ((repeat (first | exact .h _ | refine .t _ _ ?_)); done)); (focus exact fun _ => rfl); rotate_left; (focus (first | omega | (simp; done) | (simp; omega))))))
  refine EqS_mk (xs := kc ⟨3, 1, 0, 2⟩) (ys := [.int .i64 3, .int .i64 1, .int .i64 0, .int .i64 2]) (r := true) rfl rfl rfl ?_
  repeat (simp +decide only [SEM])
  refine fn10 (fun _ _ => rfl) (Count_ok d fun w d => ?_)
  repeat (simp +decide only [SEM])
  exact k _ d.tail.tail.tail
theorem iand_comm (a b : Int) : iand .i64 a b = iand .i64 b a := by
  unfold iand
  rw [BitVec.and_comm]
/-- The first that fits from k on. -/
def wantF {α : Type} (q : α → Bool) (l : List α) (k : Nat) : Int := match (l.drop k).findIdx? q with | some j => (k : Int) + j | none => -1
theorem wantF_end {α : Type} (q : α → Bool) (l : List α) : wantF q l l.length = -1 := by
  unfold wantF
  rw [List.drop_length]; rfl
theorem wantF_step {α : Type} (q : α → Bool) (l : List α) {k : Nat} (h : k < l.length) : wantF q l k = if q l[k] then (k : Int) else wantF q l (k + 1) := by
  unfold wantF
  rw [List.drop_eq_getElem_cons h, List.findIdx?_cons]
  cases q l[k] with
  | true => simp
  | false =>
    cases (l.drop (k + 1)).findIdx? q with
    | none => rfl
    | some j => simp; omega
def fq (o sh : Int) (y : It) : Bool := decide (y.o = o) && !decide (iand .i64 sh y.m = 0)
theorem first_ok {o sh : Int} (hl : l.length ≤ maxLen) (hsh : I64 sh) (ho : OldL w0 2 ic lv l) (hm : Old w0 ∈ L) (d : D w0 L w) (k : ∀ w', D w0 L w' → K (.bool true) w') :
    Cl pg 3 #[lv, .int .i64 o, .int .i64 sh] K w := by
  refine V.jacinthlaw16_WaitsFirst_ok ?_
  unfold V.jacinthlaw16_WaitsFirst
  have aw : ∀ {b : Nat} {S : List Wt} (w : World), D w0 (Ws b 2 S :: L) w → Cl pg 9 #[] (fun v w => K v w) w := fun w d => awake_ok d.tail k
  refine fn10 (fun _ _ => rfl) (New_ok (by omega) d fun b w d => ?_)
  repeat (simp +decide only [SEM])
  refine ho.len ?_
  repeat (simp +decide only [SEM])
  refine ⟨fun h => fn00 (fun _ _ => rfl) (aw w d), fun h => ?_⟩
  refine fn10 (fun _ _ => rfl) (itemsOf_ok (by omega) ho (by simp [hm]) d fun iv w d => ?_)
  refine fn40 (fun _ _ => rfl) (Block_ok (by simp) (by omega) (by omega) d.swap (fun hb w d => ?_) fun hb sv' w d => ?_)
  · repeat (simp +decide only [SEM])
    refine ⟨fun _ => ?_, fun h => absurd h hb⟩
    refine fn10 (fun _ _ => rfl) (Count_ok d fun w d => ?_)
    repeat (simp +decide only [SEM])
    exact fn00 (fun _ _ => rfl) (aw w d.tail2)
  · repeat (simp +decide only [SEM])
    refine ho.len ?_
    repeat (simp +decide only [SEM])
    rw [w64 (by unfold maxLen at hl; omega) (by unfold maxLen at hl; omega)]
    have d := d.tail2
    refine ⟨fun vs w' => ∃ (i : Nat), vs = [.int .i64 (wantF (fq o sh) l i), .int .i64 ((i : Int) - 1)] ∧ i ≤ l.length ∧ D w0 (Ws b 2 ([] ++ [⟨1, 9, sv', l⟩]) :: L) w', fun vs _ => match vs with | [_, .int _ i] => (i + 1).toNat | _ => 0, ⟨l.length, by rw [wantF_end], by omega, d⟩, ?_⟩
    rintro _ w ⟨i, rfl, hi, d⟩ _
    simp only [UN]
    repeat (simp +decide only [SEM])
    refine ⟨fun hge => ?_, fun hlt => ?_⟩
    · obtain ⟨j, rfl⟩ : ∃ j, i = j + 1 := ⟨i - 1, by omega⟩
      have e : ((j + 1 : Nat) : Int) - 1 = (j : Int) := by omega
      have hj : j < l.length := by omega
      simp only [e]
      have hs := wantF_step (fq o sh) l hj
      have nx : IntKind.i64.wrap ((j : Int) - 1) = (j : Int) - 1 := w64 (by unfold maxLen at hl; omega) (by unfold maxLen at hl; omega)
      refine ho.fld (n := 0) (by omega) (by omega) d (by simp [hm]) rfl ?_
      simp only [Int.toNat_natCast]
      repeat (simp +decide only [SEM])
      refine ⟨fun h1 => ?_, fun h1 => ?_⟩
      · refine ho.fld (n := 1) (by omega) (by omega) d (by simp [hm]) rfl ?_
        simp only [Int.toNat_natCast]
        repeat (simp +decide only [SEM])
        rw [nx]
        refine ⟨fun h2 => ?_, fun h2 => ?_⟩
        · exact ⟨⟨j, by rw [hs, if_pos]; simp only [fq, h1, iand_comm sh]; simp [h2], by omega, d⟩, by show ((j : Int) - 1 + 1).toNat < ((j : Int) + 1).toNat; omega⟩
        · exact ⟨⟨j, by rw [hs, if_neg]; simp only [fq, h1, iand_comm sh]; simp [h2], by omega, d⟩, by show ((j : Int) - 1 + 1).toNat < ((j : Int) + 1).toNat; omega⟩
      · rw [nx]
        exact ⟨⟨j, by rw [hs, if_neg]; simp [fq, h1], by omega, d⟩, by show ((j : Int) - 1 + 1).toNat < ((j : Int) + 1).toNat; omega⟩
    · have e : i = 0 := by omega
      subst e
      refine fn30 (fun _ _ => rfl) (Tell_ok (by simp) (by simp; omega) d fun lv w d => ?_)
      have hh : wantF (fq o sh) l 0 = match hitI o (fun y => !decide (iand .i64 sh y.m = 0)) ⟨1, 9, sv', l⟩ with | some j => (j : Int) | none => -1 := by
        unfold wantF hitI
        rw [List.drop_zero]
        show (match l.findIdx? (fun y => decide (y.o = o) && !decide (iand .i64 sh y.m = 0)) with | some j => ((0 : Nat) : Int) + j | none => -1) = _
        cases l.findIdx? (fun y => decide (y.o = o) && !decide (iand .i64 sh y.m = 0)) <;> simp
      rw [hh]
      have ht : telS o (fun y => !decide (iand .i64 sh y.m = 0)) 0 sh ([] ++ [⟨1, 9, sv', l⟩]) = match hitI o (fun y => !decide (iand .i64 sh y.m = 0)) ⟨1, 9, sv', l⟩ with | some j => [⟨1, j, 0, sh⟩] | none => [] := by
        unfold telS ons
        simp only [List.nil_append, List.filterMap_cons, List.filterMap_nil]
        cases hitI o (fun y => !decide (iand .i64 sh y.m = 0)) ⟨1, 9, sv', l⟩ <;> rfl
      rw [ht] at d
      clear ht hh
      cases hc : hitI o (fun y => !decide (iand .i64 sh y.m = 0)) ⟨1, 9, sv', l⟩ with
      | none =>
        rw [hc] at d
        dsimp only at d
        obtain ⟨q, c, rfl, -⟩ := Rw.shape d.swap.1
        repeat (simp +decide only [SEM])
        refine fn20 (fun _ _ => rfl) (Blocked_ok (Nat.le_trans (drAll_len _ _) (by simp)) d fun w d => ?_)
        have e : wix 1 (drAll [] ([] ++ [(⟨1, 9, sv', l⟩ : Wt)])) = 0 := rfl
        rw [e]
        repeat (simp +decide only [SEM])
        exact fn00 (fun _ _ => rfl) (aw w d.tail2)
      | some j =>
        rw [hc] at d
        dsimp only at d
        obtain ⟨b1, c1, cs, rfl, g, hcs⟩ := rec_at (i := (0 : Int)) kc_len d.swap (by omega) (by simp)
        repeat (simp +decide only [SEM])
        refine ⟨fun h => by omega, fun _ => ⟨fun _ => ?_, fun h => absurd rfl h⟩⟩
        refine ia_ok (by omega) (by simp) ?_
        repeat (simp +decide only [SEM])
        refine ld1 g (hcs 1 _ rfl) ?_
        repeat (simp +decide only [SEM])
        refine ⟨fun _ => ?_, fun h => absurd rfl h⟩
        refine fn20 (fun _ _ => rfl) (Blocked_ok (Nat.le_trans (drAll_len _ _) (by simp)) d fun w d => ?_)
        have e : wix 1 (drAll [(⟨1, j, 0, sh⟩ : Wk)] ([] ++ [(⟨1, 9, sv', l⟩ : Wt)])) = -1 := rfl
        rw [e]
        repeat (simp +decide only [SEM])
        exact fn00 (fun _ _ => rfl) (aw w d.tail2)
theorem its_of {n : Nat} (h : OldSl pg w0 32 2 lv n) : ∃ l : List It, l.length = n ∧ (∀ y ∈ l, I64 y.o ∧ I64 y.m) ∧ OldL w0 2 ic lv l ∧ n ≤ maxLen := by
  refine h.list fun vs hv => ?_
  obtain ⟨x0, x1, rfl, h0, h1⟩ := rd32 hv
  exact ⟨⟨x0, x1⟩, rfl, I64.of_wf h0, I64.of_wf h1⟩
theorem first_law {n : Nat} {o sh : Int} (h : OldSl pg w0 32 2 lv n) (hsh : I64 sh) (hm : Old w0 ∈ L) (d : D w0 L w) (k : ∀ w', D w0 L w' → K (.bool true) w') :
    Cl pg 3 #[lv, .int .i64 o, .int .i64 sh] K w := by
  obtain ⟨l, hl, _, ho, hn⟩ := its_of h
  exact first_ok (by omega) hsh ho hm d k
end
end Go.Proofs.Ythjkmgckkacegaa
