/- Waits: the reference's own: finding, leaving out, blocking, the first item. -/
import Derived.Test.YthjkmgckkacegaaWj
set_option maxRecDepth 100000
set_option maxHeartbeats 4000000
namespace Go.Proofs.Ythjkmgckkacegaa
open Go Go.Jac
/-- The reference's waits; the items stand where the script's do. -/
def Xs (b : Nat) (most : Int) (X : List Wt) : HP := ex fun v => sat [cel b 62 [v, .int .i64 most], Rw 71 3 v X.length (X.flatMap wc)]
def Ois (w0 : World) (X : List Wt) : Prop := ∀ x ∈ X, OldL w0 2 ic x.sv x.it
theorem Ois.one {w0 : World} {X : List Wt} (h : Ois w0 X) : ∀ x ∈ X, ∃ q c, x.sv = .slice q x.it.length c := fun x hx => (h x hx).shape
/-- Without a thread. -/
def rmT (th : Int) (X : List Wt) : List Wt := X.filter fun x => decide (x.th ≠ th)
theorem rmT_snoc {th : Int} {X : List Wt} {i : Nat} (hi : i < X.length) : rmT th (X.take (i + 1)) = if X[i].th = th then rmT th (X.take i) else rmT th (X.take i) ++ [X[i]] := by
  unfold rmT
  rw [List.take_succ_eq_append_getElem hi, List.filter_append]
  split
  · rename_i h; simp [h]
  · rename_i h; simp [h]
theorem rmT_len {th : Int} {X : List Wt} : (rmT th X).length ≤ X.length := List.length_filter_le _ _
theorem Ois.rm {w0 : World} {X : List Wt} {th : Int} (h : Ois w0 X) : Ois w0 (rmT th X) := fun x hx => h x (List.mem_filter.1 hx).1
section
variable {w0 w : World} {L : List HP} {K : Value → WP} {b : Nat} {most : Int} {X : List Wt} {sv v lv : Value} {it : List It}
theorem Xs.out (d : D w0 (Xs b most X :: L) w) : ∃ v, D w0 (cel b 62 [v, .int .i64 most] :: Rw 71 3 v X.length (X.flatMap wc) :: L) w := by
  obtain ⟨v, d⟩ := d.ex
  exact ⟨v, d.opens⟩
theorem Xs.mk (d : D w0 (cel b 62 [v, .int .i64 most] :: Rw 71 3 v X.length (X.flatMap wc) :: L) w) : D w0 (Xs b most X :: L) w :=
  D.mk_ex (A := fun v => sat [cel b 62 [v, .int .i64 most], Rw 71 3 v X.length (X.flatMap wc)]) v (D.close (M := [_, _]) d)
theorem RFind_ok {th : Int} (hX : X.length ≤ 65536) (d : D w0 (Xs b most X :: L) w) (k : ∀ w', D w0 (Xs b most X :: L) w' → K (.int .i64 (wix th X)) w') : Cl pg 24 #[.pointer (some ⟨b, 0, none⟩), .int .i64 th] K w := by
  refine V.jacinthref16_Waits_Find_ok ?_
  unfold V.jacinthref16_Waits_Find
  obtain ⟨v, d⟩ := Xs.out d
  obtain ⟨q, c, rfl, -⟩ := Rw.shape d.swap.1
  refine ⟨fun vs w' => ∃ (u : Value) (i : Nat), vs = [u, .int .i64 i] ∧ i ≤ X.findIdx (fun x => decide (x.th = th)) ∧ D w0 (cel b 62 [.slice q X.length c, .int .i64 most] :: Rw 71 3 (.slice q X.length c) X.length (X.flatMap wc) :: L) w', fun vs _ => match vs with | [_, .int _ i] => X.length - i.toNat | _ => 0, ⟨_, 0, rfl, by omega, d⟩, ?_⟩
  clear d
  rintro _ w ⟨u, i, rfl, hi, d⟩ _
  have hle : X.findIdx (fun x => decide (x.th = th)) ≤ X.length := List.findIdx_le_length
  simp only [UN]
  repeat (first | (simp +decide only [SEM]) | (apply ldm d; (focus ((repeat (first | exact .h _ | refine .t _ _ ?_)); done)); (focus rfl)))
  refine ⟨fun hlt => ?_, fun hge => ?_⟩
  · have hlt' : i < X.length := by omega
    repeat (first | (simp +decide only [SEM]) | (apply ldm d; (focus ((repeat (first | exact .h _ | refine .t _ _ ?_)); done)); (focus rfl)) | (focus (apply rw_fld d; (focus ((repeat (first | exact .h _ | refine .t _ _ ?_)); done)); (focus exact fun _ => rfl); (focus rfl); rotate_left; (focus (first | omega | (simp; done) | (simp; omega))))))
    refine ⟨fun hz => ?_, fun hz => ?_⟩
    · have e : X.findIdx (fun x => decide (x.th = th)) = i := by
        rcases Nat.lt_or_ge i (X.findIdx (fun x => decide (x.th = th))) with h | h
        · have := List.not_of_lt_findIdx h
          simp at this
          exact absurd hz this
        · omega
      have := k w (Xs.mk d)
      rwa [wix, fidx, if_pos (by omega), e] at this
    · have : i < X.findIdx (fun x => decide (x.th = th)) := by
        rcases Nat.lt_or_ge i (X.findIdx (fun x => decide (x.th = th))) with h | h
        · exact h
        · have e : i = X.findIdx (fun x => decide (x.th = th)) := by omega
          have := List.findIdx_getElem (p := fun x : Wt => decide (x.th = th)) (xs := X) (w := by omega)
          subst e
          exact absurd (by simpa using this) hz
      rw [w64 (by omega) (by omega)]
      exact ⟨⟨u, i + 1, by simp, this, d⟩, by omega⟩
  · have := k w (Xs.mk d)
    rwa [wix, fidx, if_neg (by omega)] at this
theorem RDrop_ok {th : Int} (hX : X.length ≤ 65536) (hO : ∀ x ∈ X, ∃ q c, x.sv = .slice q x.it.length c) (d : D w0 (Xs b most X :: L) w) (k : ∀ w', D w0 (Xs b most (rmT th X) :: L) w' → K (.tuple #[]) w') : Cl pg 25 #[.pointer (some ⟨b, 0, none⟩), .int .i64 th] K w := by
  refine V.jacinthref16_Waits_Drop_ok ?_
  unfold V.jacinthref16_Waits_Drop
  obtain ⟨v, d⟩ := Xs.out d
  obtain ⟨q, c, rfl, -⟩ := Rw.shape d.swap.1
  refine ⟨fun vs w' => ∃ (i : Nat) (lv : Value), vs = [lv, .int .i64 i] ∧ i ≤ X.length ∧ D w0 (Rw 71 3 lv (rmT th (X.take i)).length ((rmT th (X.take i)).flatMap wc) :: cel b 62 [.slice q X.length c, .int .i64 most] :: Rw 71 3 (.slice q X.length c) X.length (X.flatMap wc) :: L) w', fun vs _ => match vs with | [_, .int _ i] => X.length - i.toNat | _ => 0, ⟨0, _, rfl, by omega, ⟨Rw.nil _ _ d.1, d.2⟩⟩, ?_⟩
  clear d
  rintro _ w ⟨i, lv, rfl, hi, d⟩ _
  simp only [UN]
  repeat (first | (simp +decide only [SEM]) | (apply ldm d; (focus ((repeat (first | exact .h _ | refine .t _ _ ?_)); done)); (focus rfl)))
  refine ⟨fun hlt => ?_, fun hge => ?_⟩
  · have hlt' : i < X.length := by omega
    have hst := rmT_snoc (th := th) hlt'
    have hdl : (rmT th (X.take i)).length ≤ i := Nat.le_trans rmT_len (by rw [List.length_take]; omega)
    have hone := wc_one (hO _ (List.getElem_mem hlt'))
    repeat (first | (simp +decide only [SEM]) | (apply ldm d; (focus ((repeat (first | exact .h _ | refine .t _ _ ?_)); done)); (focus rfl)) | (focus (apply rw_fld d; (focus ((repeat (first | exact .h _ | refine .t _ _ ?_)); done)); (focus exact fun _ => rfl); (focus rfl); rotate_left; (focus (first | omega | (simp; done) | (simp; omega))))))
    refine ⟨fun hne => ?_, fun he => ?_⟩
    · repeat (first | (apply ldm d; (focus ((repeat (first | exact .h _ | refine .t _ _ ?_)); done)); (focus rfl)) | refine bsl1 (by first | rfl | (simp only [cells_agg, cells_int, cells_bool, cells_ptr, cells_sl, cells_map, cells_fn, List.drop_succ_cons, List.drop_zero, List.take_succ_cons, List.take_zero, Nat.zero_add, Nat.reduceAdd, Int.toNat_natCast, Int.toNat_zero]; rfl)) rfl d (by decide) (by decide) fun bn w d => ?_ | (focus (apply rw_elN d; (focus ((repeat (first | exact .h _ | refine .t _ _ ?_)); done)); (focus exact fun _ => rfl); rotate_left; (focus (first | omega | (simp; done) | (simp; omega))))))
      refine d_app (m := 1) (D.sel [1] d) (src_of (gc1 (D.sel [1] d)) rfl hone 1) rfl (by omega) (by omega) (by omega) hone fun lv' w d => ?_
      repeat (simp +decide only [SEM])
      rw [w64 (by omega) (by omega)]
      refine ⟨⟨i + 1, lv', by simp, by omega, ?_⟩, by show X.length - ((i : Int) + 1).toNat < X.length - (i : Int).toNat; omega⟩
      rw [hst, if_neg hne, List.length_append, List.flatMap_append, List.flatMap_singleton]
      exact d.tail2
    · rw [w64 (by omega) (by omega)]
      refine ⟨⟨i + 1, lv, by simp, by omega, ?_⟩, by omega⟩
      rw [hst, if_pos he]
      exact d
  · have hi' : i = X.length := by omega
    subst hi'
    rw [List.take_length] at d
    obtain ⟨q2, c2, rfl, -⟩ := Rw.shape d.1
    repeat (apply stm d; (focus ((repeat (first | exact .h _ | apply Rp.t)); done)); (focus rfl); (focus simp); (focus exact ones rfl); intro w d; simp only [SPL] at d)
    exact k _ (Xs.mk (D.sel [2, 0, 1] d).tail.swap)
theorem RBlock_ok {th dl : Int} {iv : Value} (hX : X.length ≤ 65536) (hm : most ≤ 65536) (hO : OldL w0 2 ic iv it) (hm2 : Old w0 ∈ L) (d : D w0 (Xs b most X :: L) w)
    (k1 : bst most X th it ≠ 0 → ∀ w', D w0 (Xs b most X :: L) w' → K (.int .i64 (bst most X th it)) w')
    (k2 : bst most X th it = 0 → ∀ w', D w0 (Xs b most (X ++ [⟨th, dl, iv, it⟩]) :: L) w' → K (.int .i64 0) w') :
    Cl pg 20 #[.pointer (some ⟨b, 0, none⟩), .int .i64 th, .int .i64 dl, iv] K w := by
  refine V.jacinthref16_Waits_Block_ok ?_
  unfold V.jacinthref16_Waits_Block
  have bad : (th < 0 ∨ it.length < 1 ∨ 8 < it.length ∨ fidx (fun y : It => decide (y.o < 1)) it ≠ -1) → ∀ w', D w0 (Xs b most X :: L) w' → K (.int .i64 (-10)) w' := by
    intro h w' d
    have e : bst most X th it = -10 := by unfold bst; rw [if_pos h]
    have := k1 (by rw [e]; decide) w' d
    rwa [e] at this
  have hx := wix_le th X
  repeat (simp +decide only [SEM])
  refine ⟨fun h1 => ?_, fun h1 => bad (.inl h1) _ d⟩
  refine hO.len ?_
  repeat (simp +decide only [SEM])
  refine ⟨fun h2 => ?_, fun h2 => bad (.inr (.inl (by omega))) _ d⟩
  refine hO.len ?_
  repeat (simp +decide only [SEM])
  refine ⟨fun h3 => bad (.inr (.inr (.inl (by omega)))) _ d, fun h3 => ?_⟩
  refine ⟨fun vs w' => ∃ (u : Value) (i : Nat), vs = [u, .int .i64 i] ∧ i ≤ it.findIdx (fun y : It => decide (y.o < 1)) ∧ D w0 (Xs b most X :: L) w', fun vs _ => match vs with | [_, .int _ i] => it.length - i.toNat | _ => 0, ⟨_, 0, rfl, by omega, d⟩, ?_⟩
  clear d
  rintro _ w ⟨u, i, rfl, hi, d⟩ _
  have hle : it.findIdx (fun y : It => decide (y.o < 1)) ≤ it.length := List.findIdx_le_length
  simp only [UN]
  refine hO.len ?_
  repeat (simp +decide only [SEM])
  refine ⟨fun hlt => ?_, fun hge => ?_⟩
  · have hlt' : i < it.length := by omega
    refine hO.fld (x := .int .i64 it[i].o) (by omega) hlt d (by simp [hm2]) (by simp [ic]) ?_
    repeat (simp +decide only [SEM])
    refine ⟨fun hz => ?_, fun hz => ?_⟩
    · refine bad (.inr (.inr (.inr ?_))) _ d
      have : it.findIdx (fun y : It => decide (y.o < 1)) < it.length := List.findIdx_lt_length.2 ⟨it[i], List.getElem_mem _, by simpa using hz⟩
      unfold fidx
      rw [if_pos this]; omega
    · have : i < it.findIdx (fun y : It => decide (y.o < 1)) := by
        rcases Nat.lt_or_ge i (it.findIdx (fun y : It => decide (y.o < 1))) with h | h
        · exact h
        · have e : i = it.findIdx (fun y : It => decide (y.o < 1)) := by omega
          have := List.findIdx_getElem (p := fun y : It => decide (y.o < 1)) (xs := it) (w := by omega)
          subst e
          exact absurd (by simpa using this) hz
      rw [w64 (by omega) (by omega)]
      exact ⟨⟨u, i + 1, by simp, this, d⟩, by omega⟩
  · have hfx : fidx (fun y : It => decide (y.o < 1)) it = -1 := by unfold fidx; rw [if_neg (by omega)]
    have e1 : bst most X th it = if wix th X ≠ -1 then -26 else if most ≤ X.length then -4 else 0 := by
      unfold bst
      rw [if_neg (by omega)]
    rw [e1] at k1 k2
    refine fn20 (fun _ _ => rfl) (RFind_ok hX d fun w d => ?_)
    repeat (simp +decide only [SEM])
    refine ⟨fun h5 => ?_, fun h5 => ?_⟩
    · have := k1 (by rw [if_pos (by omega)]; decide) _ d
      rwa [if_pos (by omega)] at this
    rw [if_neg (by omega)] at k1 k2
    obtain ⟨sv, d⟩ := Xs.out d
    obtain ⟨q2, c2, rfl, -⟩ := Rw.shape d.swap.1
    repeat (first | refine drw d fun w d => ?_ | (simp +decide only [SEM]) | refine qt d ?_ | refine qe_nil ?_ | refine qe_len ?_ | (apply qlm; (focus ((repeat (first | exact .h _ | refine .t _ _ ?_)); done)); (focus rfl)))
    refine ⟨fun h6 => ?_, fun h6 => ?_⟩
    · have := k1 (by rw [if_pos (by omega)]; decide) _ (Xs.mk d)
      rwa [if_pos (by omega)] at this
    rw [if_neg (by omega)] at k2
    obtain ⟨qi, ci, rfl⟩ := hO.shape
    repeat (first | (apply ldm d; (focus ((repeat (first | exact .h _ | refine .t _ _ ?_)); done)); (focus rfl)) | (((repeat (refine bld_c rfl rfl (by simp) ?_; simp only [List.set_cons_zero, List.set_cons_succ])); refine bld_n ?_)) | refine bsl1 (by first | rfl | (simp only [cells_agg, cells_int, cells_bool, cells_ptr, cells_sl, cells_map, cells_fn, List.drop_succ_cons, List.drop_zero, List.take_succ_cons, List.take_zero, Nat.zero_add, Nat.reduceAdd, Int.toNat_natCast, Int.toNat_zero]; rfl)) rfl d (by decide) (by decide) fun bn w d => ?_)
    refine d_app (m := 1) (D.sel [2] d) (src_of (gc1 (D.sel [2] d)) rfl (ones rfl) 1) rfl (by omega) (by omega) (by omega) (ones rfl) fun sv' w d => ?_
    obtain ⟨q4, c4, rfl, -⟩ := Rw.shape d.1
    repeat (first | (simp +decide only [SEM]) | (apply stm d; (focus ((repeat (first | exact .h _ | apply Rp.t)); done)); (focus rfl); (focus simp); (focus exact ones rfl); intro w d; simp only [SPL] at d))
    refine k2 rfl _ (Xs.mk (v := .slice q4 (X.length + 1) c4) ?_)
    rw [List.length_append, List.flatMap_append, List.flatMap_singleton]
    exact (D.sel [1, 2, 0] d).tail
/-- The first item that fits. -/
theorem item_ok {x : Wt} {o sh : Int} (hO : OldL w0 2 ic x.sv x.it) (hi : x.it.length ≤ 1048576) (hm2 : Old w0 ∈ L) (d : D w0 L w)
    (k : ∀ w', D w0 L w' → K (.int .i64 (fidx (fun y : It => decide (y.o = o) && (decide (sh = -1) || !decide (iand .i64 y.m sh = 0))) x.it)) w') : Cl pg 43 #[.agg (wc x).toArray, .int .i64 o, .int .i64 sh] K w := by
  refine V.jacinthref16_item_ok ?_
  unfold V.jacinthref16_item
  obtain ⟨qi, ci, hsv⟩ := hO.shape
  generalize hp : (fun y : It => decide (y.o = o) && (decide (sh = -1) || !decide (iand .i64 y.m sh = 0))) = p at *
  simp only [cells_agg]
  refine d_new _ d fun bx w d => ?_
  refine ⟨fun vs w' => ∃ (u : Value) (i : Nat), vs = [u, .int .i64 i] ∧ i ≤ x.it.findIdx p ∧ D w0 (cel bx 71 (wc x) :: L) w', fun vs _ => match vs with | [_, .int _ i] => x.it.length - i.toNat | _ => 0, ⟨_, 0, rfl, by omega, d⟩, ?_⟩
  clear d
  rintro _ w ⟨u, i, rfl, hi', d⟩ _
  have hle : x.it.findIdx p ≤ x.it.length := List.findIdx_le_length
  simp only [UN, wc, hsv] at d ⊢
  repeat (first | (simp +decide only [SEM]) | (apply ldm d; (focus ((repeat (first | exact .h _ | refine .t _ _ ?_)); done)); (focus rfl)))
  refine ⟨fun hlt => ?_, fun hge => ?_⟩
  · have hlt' : i < x.it.length := by omega
    have nxt : p x.it[i] = false → i < x.it.findIdx p := fun h => by
      rcases Nat.lt_or_ge i (x.it.findIdx p) with h2 | h2
      · exact h2
      · have e : i = x.it.findIdx p := by omega
        have := List.findIdx_getElem (p := p) (xs := x.it) (w := by omega)
        subst e
        rw [h] at this
        cases this
    have here : p x.it[i] = true → K (.int .i64 i) w := fun h => by
      have e : x.it.findIdx p = i := by
        rcases Nat.lt_or_ge i (x.it.findIdx p) with h2 | h2
        · have := List.not_of_lt_findIdx h2
          rw [h] at this
          simp at this
        · omega
      have := k w d.tail
      rwa [fidx, if_pos (by omega), e] at this
    rw [hsv] at hO
    repeat (apply ldm d; (focus ((repeat (first | exact .h _ | refine .t _ _ ?_)); done)); (focus rfl))
    refine hO.fld (x := .int .i64 x.it[i].o) (by omega) hlt d (by simp [hm2]) (by simp [ic]) ?_
    subst hp
    repeat (simp +decide only [SEM])
    refine ⟨fun h1 => ?_, fun h1 => ?_⟩
    · skip
      refine ⟨fun h2 => ?_, fun h2 => here (by simp [h1, h2])⟩
      repeat (apply ldm d; (focus ((repeat (first | exact .h _ | refine .t _ _ ?_)); done)); (focus rfl))
      refine hO.fld (x := .int .i64 x.it[i].m) (by omega) hlt d (by simp [hm2]) (by simp [ic]) ?_
      repeat (simp +decide only [SEM])
      refine ⟨fun h3 => here (by simp [h1, h2, h3]), fun h3 => ?_⟩
      rw [w64 (by omega) (by omega)]
      exact ⟨⟨u, i + 1, by simp, nxt (by simp [h2, h3]), d⟩, by omega⟩
    · rw [w64 (by omega) (by omega)]
      exact ⟨⟨u, i + 1, by simp, nxt (by simp [h1]), d⟩, by omega⟩
  · have := k w d.tail
    rwa [fidx, if_neg (by omega)] at this
end
end Go.Proofs.Ythjkmgckkacegaa
