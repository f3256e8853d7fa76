/- Waits: the law of forgetting. -/
import Derived.Test.YthjkmgckkacegaaWe
set_option maxRecDepth 100000
set_option maxHeartbeats 4000000
namespace Go.Proofs.Ythjkmgckkacegaa
open Go Go.Jac
def tc (x : Wt) : List Value := [.int .i64 x.th]
theorem tc_len (x : Wt) : (tc x).length = 1 := rfl
def nc (n : Int) : List Value := [.int .i64 n]
theorem nc_len (x : Int) : (nc x).length = 1 := rfl
/-- Whoever waits, each once, for one thing. -/
structure Gd1 (it : List It) (S : List Wt) : Prop where
  its : ∀ x ∈ S, x.it = it ∧ 0 ≤ x.th
  nd : (S.map (·.th)).Nodup
theorem wix_none {th : Int} {S : List Wt} : wix th S = -1 ↔ ∀ x ∈ S, x.th ≠ th := by
  unfold wix fidx
  constructor
  · intro h x hx e
    split at h
    · omega
    · rename_i hl
      exact hl (List.findIdx_lt_length.2 ⟨x, hx, by simp [e]⟩)
  · intro h
    rw [if_neg]
    intro hl
    obtain ⟨x, hx, he⟩ := List.findIdx_lt_length.1 hl
    exact h x hx (by simpa using he)
theorem wix_some {th : Int} {S : List Wt} (h : wix th S ≠ -1) : ∃ x ∈ S, x.th = th := by
  have := mt wix_none.2 h
  simpa using this
theorem bst0 {most th : Int} {S : List Wt} {it : List It} (h : bst most S th it = 0) : 0 ≤ th ∧ wix th S = -1 ∧ S.length < most := by
  unfold bst at h
  split at h
  · omega
  · split at h
    · omega
    · split at h
      · omega
      · rename_i h1 h2 h3
        exact ⟨by omega, by omega, by omega⟩
theorem Gd1.snoc {it : List It} {S : List Wt} {th dl : Int} {sv : Value} (h : Gd1 it S) (h0 : 0 ≤ th) (h1 : wix th S = -1) : Gd1 it (S ++ [⟨th, dl, sv, it⟩]) := by
  refine ⟨fun x hx => ?_, ?_⟩
  · rcases List.mem_append.1 hx with hx | hx
    · exact h.its x hx
    · rw [List.mem_singleton.1 hx]; exact ⟨rfl, h0⟩
  · rw [List.map_append, List.nodup_append]
    refine ⟨h.nd, by simp, ?_⟩
    intro a ha b hb e
    obtain ⟨x, hx, rfl⟩ := List.mem_map.1 ha
    simp at hb
    exact wix_none.1 h1 x hx (e.trans hb)
theorem drS_gone {S : List Wt} {i : Nat} (hi : i < S.length) (hn : (S.map (·.th)).Nodup) : wix S[i].th S = i ∧ wix S[i].th (S.eraseIdx i) = -1 := by
  have hne : ∀ j (hj : j < S.length), j ≠ i → S[j].th ≠ S[i].th := by
    intro j hj e he
    have h := List.pairwise_iff_getElem.1 hn
    rcases Nat.lt_or_gt_of_ne e with h1 | h1
    · exact h j i (by simpa using hj) (by simpa using hi) h1 (by simpa using he)
    · exact h i j (by simpa using hi) (by simpa using hj) h1 (by simpa using he.symm)
  constructor
  · have hx := wix_le S[i].th S
    have : wix S[i].th S ≠ -1 := fun h => wix_none.1 h S[i] (List.getElem_mem _) rfl
    unfold wix fidx at this hx ⊢
    split
    · rename_i hl
      have h2 := List.findIdx_getElem (p := fun x : Wt => decide (x.th = S[i].th)) (xs := S) (w := hl)
      by_cases e : S.findIdx (fun x => decide (x.th = S[i].th)) = i
      · rw [e]
      · exact absurd (by simpa using h2) (hne _ hl e)
    · rename_i hl; rw [if_neg hl] at this; exact absurd rfl this
  · rw [wix_none]
    intro x hx
    obtain ⟨j, hj, hji, rfl⟩ := List.mem_eraseIdx_iff_getElem.1 hx
    exact hne _ _ (by assumption)
theorem telS_app {o st sh : Int} {p : It → Bool} {A B : List Wt} : telS o p st sh (A ++ B) = telS o p st sh A ++ telS o p st sh B := by
  unfold telS ons
  rw [List.filterMap_append, List.map_append]
theorem telS_all {o m st sh : Int} {p : It → Bool} {S : List Wt} (h : ∀ x ∈ S, x.it = [⟨o, m⟩]) (hp : p ⟨o, m⟩ = true) : telS o p st sh S = S.map fun x => ⟨x.th, 0, st, sh⟩ := by
  induction S with
  | nil => rfl
  | cons x r ih =>
    have e : x :: r = [x] ++ r := rfl
    rw [e, telS_app, ih fun y hy => h y (by simp [hy]), List.map_append]
    congr 1
    have hx := h x (by simp)
    unfold telS ons hitI
    simp [hx, hp, toWk]
theorem drAll_self {st sh : Int} : ∀ (S T : List Wt), drAll (S.map fun x => ⟨x.th, 0, st, sh⟩) (S ++ T) = T
  | [], T => rfl
  | x :: r, T => by
    show drAll (r.map fun x => ⟨x.th, 0, st, sh⟩) (drS x.th (x :: (r ++ T))) = T
    have : drS x.th (x :: (r ++ T)) = r ++ T := by unfold drS; rw [List.eraseP_cons_of_pos (by simp)]
    rw [this]
    exact drAll_self r T
section
variable {w0 w : World} {L : List HP} {K : Value → WP} {b : Nat} {most : Int} {S : List Wt} {sv iv lv : Value}
theorem item1 {bi : Nat} {o m : Int} (d : D w0 (cel bi 42 [.int .i64 o, .int .i64 m] :: L) w) : D w0 (Rw 42 2 (.slice (some ⟨bi, 0, none⟩) 1 1) ([⟨o, m⟩] : List It).length (([⟨o, m⟩] : List It).flatMap ic) :: L) w :=
  ⟨Rw.mk (junk := []) (cs := [.int .i64 o, .int .i64 m]) d.1 (Nat.le_refl _) rfl rfl, d.2⟩
theorem forget_ok {l : List Int} {at_ : Int} (hl : l.length ≤ maxLen) (ho : OldL w0 1 nc lv l) (hm : Old w0 ∈ L) (d : D w0 L w) (k : ∀ w', D w0 L w' → K (.bool true) w') :
    Cl pg 4 #[lv, .int .i64 at_] K w := by
  refine V.jacinthlaw16_WaitsForget_ok ?_
  unfold V.jacinthlaw16_WaitsForget
  have aw : ∀ (w : World), D w0 L w → Cl pg 9 #[] (fun v w => K v w) w := fun w d => awake_ok d k
  refine fn10 (fun _ _ => rfl) (New_ok (by omega) d fun b w d => ?_)
  repeat (simp +decide only [SEM])
  refine ho.len ?_
  repeat (simp +decide only [SEM])
  refine ⟨fun h => fn00 (fun _ _ => rfl) (aw w d.tail), fun h => ?_⟩
  refine ho.len ?_
  refine ⟨fun vs w' => ∃ (i : Nat) (S : List Wt) (sv : Value), vs = [sv, .int .i64 i] ∧ i ≤ l.length ∧ S.length ≤ i ∧ Gd1 [⟨2, 1⟩] S ∧ D w0 (Rw 3 1 sv S.length (S.flatMap tc) :: Ws b 100 S :: L) w', fun vs _ => match vs with | [_, .int _ i] => l.length - i.toNat | _ => 0, ⟨0, [], _, rfl, by omega, by simp, ⟨by simp, by simp⟩, ⟨Rw.nil _ _ d.1, d.2⟩⟩, ?_⟩
  rintro _ w ⟨i, S, sv, rfl, hi, hS, hg, d⟩ _
  simp only [UN]
  repeat (simp +decide only [SEM])
  refine ⟨fun hlt => ?_, fun hge => ?_⟩
  · have hlt' : i < l.length := by omega
    refine ho.ia (by omega) hlt fun a ha => ?_
    simp only [Int.toNat_natCast] at ha
    refine old_ld1 d (by simp [hm]) (by have := ha 0 _ rfl; rwa [Addr.add_zero] at this) ?_
    repeat (first | (((repeat (refine bld_c rfl rfl (by simp) ?_; simp only [List.set_cons_zero, List.set_cons_succ])); refine bld_n ?_)) | refine bsl1 (by first | rfl | (simp only [cells_agg, cells_int, cells_bool, cells_ptr, cells_sl, cells_map, cells_fn, List.drop_succ_cons, List.drop_zero, List.take_succ_cons, List.take_zero, Nat.zero_add, Nat.reduceAdd, Int.toNat_natCast, Int.toNat_zero]; rfl)) rfl d (by decide) (by decide) fun bn w d => ?_)
    have d1 := D.sel [2, 0, 1] (item1 d)
    refine fn40 (fun _ _ => rfl) (Block_ok (by omega) (by simp) (by omega) d1 (fun hb w d => ?_) fun hb sv' w d => ?_)
    · repeat (simp +decide only [SEM])
      refine ⟨fun h => absurd h hb, fun _ => ?_⟩
      rw [w64 (by omega) (by omega)]
      exact ⟨⟨i + 1, S, sv, by simp, by omega, by omega, hg, D.sel [1, 0] d.tail2⟩, by show l.length - ((i : Int) + 1).toNat < l.length - (i : Int).toNat; omega⟩
    · obtain ⟨h0, h1, h2⟩ := bst0 hb
      repeat (first | (simp +decide only [SEM]) | refine bsl1 (by first | rfl | (simp only [cells_agg, cells_int, cells_bool, cells_ptr, cells_sl, cells_map, cells_fn, List.drop_succ_cons, List.drop_zero, List.take_succ_cons, List.take_zero, Nat.zero_add, Nat.reduceAdd, Int.toNat_natCast, Int.toNat_zero]; rfl)) rfl d (by decide) (by decide) fun bn w d => ?_)
      refine d_app (m := 1) (D.sel [3] d) (src_of (gc1 (D.sel [3] d)) rfl (ones rfl) 1) rfl (by omega) (by omega) (by omega) (ones rfl) fun sv'' w d => ?_
      repeat (simp +decide only [SEM])
      rw [w64 (by omega) (by omega)]
      refine ⟨⟨i + 1, _, sv'', by simp, by omega, ?_, hg.snoc (dl := 5) (sv := sv') h0 h1, ?_⟩, by show l.length - ((i : Int) + 1).toNat < l.length - (i : Int).toNat; omega⟩
      · simp; omega
      · rw [List.length_append, List.flatMap_append, List.flatMap_singleton]
        exact (D.sel [1, 3, 0, 2] d).tail.tail
  have aw2 : D w0 (Rw 3 1 sv S.length (S.flatMap tc) :: Ws b 100 S :: L) w → (FnV pg (.func (.func 12) #[] #[]) #[.pointer (some ⟨b, 0, none⟩)] fun v53 =>
      LenS sv fun v55 => BinI .eql v53 v55 fun v56 => Grd v56 true (FnV pg (.func (.func 9) #[] #[]) #[] fun v58 => K v58) (K (.bool false))) w := by
    intro d
    refine fn10 (fun _ _ => rfl) (Count_ok d.swap fun w d => ?_)
    obtain ⟨q, c, rfl, -⟩ := Rw.shape d.swap.1
    repeat (simp +decide only [SEM])
    exact fn00 (fun _ _ => rfl) (aw w d.tail.tail)
  refine ⟨fun h1 => ?_, fun h1 => aw2 d⟩
  obtain ⟨q, c, rfl, -⟩ := Rw.shape d.1
  repeat (simp +decide only [SEM])
  refine ⟨fun h2 => aw2 d, fun h2 => ?_⟩
  obtain ⟨n, rfl⟩ : ∃ n : Nat, at_ = n := ⟨at_.toNat, by omega⟩
  have hn : n < S.length := by omega
  repeat (focus (apply rw_el1 d; (focus ((repeat (first | exact .h _ | refine .t _ _ ?_)); done)); (focus exact fun _ => rfl); (focus rfl); rotate_left; (focus (first | omega | (simp; done) | (simp; omega)))))
  obtain ⟨hw1, hw2⟩ := drS_gone hn hg.nd
  have hgi := hg.its S[n] (List.getElem_mem _)
  refine fn20 (fun _ _ => rfl) (Forget_ok (by omega) d.swap fun w d => ?_)
  rw [drS_at hw1] at d
  rw [hw1]
  have hle : (S.eraseIdx n).length = S.length - 1 := by rw [List.length_eraseIdx_of_lt hn]
  rw [if_neg (by omega)]
  repeat (simp +decide only [SEM])
  refine fn20 (fun _ _ => rfl) (Forget_ok (by omega) d fun w d => ?_)
  rw [drS_no hw2] at d
  rw [hw2]
  repeat (simp +decide only [SEM])
  refine fn20 (fun _ _ => rfl) (Blocked_ok (by omega) d fun w d => ?_)
  rw [hw2]
  repeat (first | (simp +decide only [SEM]) | (((repeat (refine bld_c rfl rfl (by simp) ?_; simp only [List.set_cons_zero, List.set_cons_succ])); refine bld_n ?_)) | refine bsl1 (by first | rfl | (simp only [cells_agg, cells_int, cells_bool, cells_ptr, cells_sl, cells_map, cells_fn, List.drop_succ_cons, List.drop_zero, List.take_succ_cons, List.take_zero, Nat.zero_add, Nat.reduceAdd, Int.toNat_natCast, Int.toNat_zero]; rfl)) rfl d (by decide) (by decide) fun bn w d => ?_)
  have d1 := D.sel [1, 0] (item1 d)
  have hb0 : bst 100 (S.eraseIdx n) S[n].th [⟨3, 1⟩] = 0 := by
    unfold bst
    rw [if_neg, if_neg (by rw [hw2]; simp), if_neg (by omega)]
    have : fidx (fun y : It => decide (y.o < 1)) [⟨3, 1⟩] = -1 := rfl
    simp [this]; omega
  refine fn40 (fun _ _ => rfl) (Block_ok (by omega) (by simp) (by omega) d1 (fun hb => absurd hb0 hb) fun _ sv' w d => ?_)
  repeat (simp +decide only [SEM])
  have hA : ∀ x ∈ S.eraseIdx n, x.it = [⟨2, 1⟩] := fun x hx => (hg.its x (List.mem_of_mem_eraseIdx hx)).1
  refine fn30 (fun _ _ => rfl) (Tell_ok (by simp; omega) (fun x hx => ?_) d fun lv w d => ?_)
  · rcases List.mem_append.1 hx with hx | hx
    · rw [hA x hx]; simp
    · rw [List.mem_singleton.1 hx]; simp
  have ht : telS 2 (fun y => !decide (iand .i64 1 y.m = 0)) 0 1 (S.eraseIdx n ++ [⟨S[n].th, 9, sv', [⟨3, 1⟩]⟩]) = (S.eraseIdx n).map fun x => ⟨x.th, 0, 0, 1⟩ := by
    rw [telS_app, telS_all hA (by decide)]
    have : telS 2 (fun y => !decide (iand .i64 1 y.m = 0)) 0 1 [⟨S[n].th, 9, sv', [⟨3, 1⟩]⟩] = [] := rfl
    rw [this, List.append_nil]
  rw [ht, drAll_self] at d
  obtain ⟨q2, c2, rfl, -⟩ := Rw.shape d.swap.1
  have hml : ((S.eraseIdx n).map fun x => (⟨x.th, 0, 0, 1⟩ : Wk)).length = S.length - 1 := by rw [List.length_map, hle]
  have hmt : ∀ i (hi : i < ((S.eraseIdx n).map fun x => (⟨x.th, 0, 0, 1⟩ : Wk)).length), (((S.eraseIdx n).map fun x => (⟨x.th, 0, 0, 1⟩ : Wk))[i]).th ≠ S[n].th := by
    intro i hi
    rw [List.getElem_map]
    exact wix_none.1 hw2 _ (List.getElem_mem _)
  revert d hmt hml
  generalize ((S.eraseIdx n).map fun x => (⟨x.th, 0, 0, 1⟩ : Wk)) = M
  intro d hml hmt
  repeat (simp +decide only [SEM])
  refine ⟨fun _ => ?_, fun h => absurd ?_ h⟩
  · refine fn20 (fun _ _ => rfl) (Blocked_ok (by simp) d fun w d => ?_)
    have e : wix S[n].th [⟨S[n].th, 9, sv', [⟨3, 1⟩]⟩] = 0 := by simp [wix, fidx]
    rw [e]
    repeat (simp +decide only [SEM])
    refine fn10 (fun _ _ => rfl) (Count_ok d fun w d => ?_)
    repeat (simp +decide only [SEM])
    refine ⟨fun h => absurd rfl h, fun _ => ?_⟩
    refine ⟨fun vs w => ∃ (u : Value) (i : Nat), vs = [u, .int .i64 i] ∧ i ≤ M.length ∧ D w0 (Ws b 100 [⟨S[n].th, 9, sv', [⟨3, 1⟩]⟩] :: Rw 38 4 (.slice q2 M.length c2) M.length (M.flatMap kc) :: L) w, fun vs _ => match vs with | [_, .int _ i] => M.length - i.toNat | _ => 0, ⟨_, 0, rfl, by omega, D.tail (D.tail (D.sel [2, 3] d))⟩, ?_⟩
    rintro _ w ⟨u, i, rfl, hi, d⟩ _
    simp only [UN]
    repeat (simp +decide only [SEM])
    refine ⟨fun hlt => ?_, fun hge => ?_⟩
    · have hlt' : i < M.length := by omega
      repeat (first | (simp +decide only [SEM]) | (apply ldm d; (focus ((repeat (first | exact .h _ | refine .t _ _ ?_)); done)); (focus rfl)) | (refine d_new _ d fun bn w d => ?_) | (apply swm d; (focus ((repeat (first | exact .h _ | apply Rp.t)); done)); (focus rfl); (focus rfl); (focus exact ones rfl); intro w d; simp only [SPL] at d) | (focus (apply rw_elN d; (focus ((repeat (first | exact .h _ | refine .t _ _ ?_)); done)); (focus exact fun _ => rfl); rotate_left; (focus (first | omega | (simp; done) | (simp; omega))))))
      refine ⟨fun h => absurd h (hmt i hlt'), fun _ => ?_⟩
      rw [w64 (by omega) (by omega)]
      exact ⟨⟨u, i + 1, by simp, by omega, D.tail d⟩, by show M.length - ((i : Int) + 1).toNat < M.length - (i : Int).toNat; omega⟩
    · refine fn20 (fun _ _ => rfl) (Cancel_ok (by simp) (by simp) d fun lv w d => ?_)
      have e2 : telS 3 (fun _ => true) (-23) 0 [⟨S[n].th, 9, sv', [⟨3, 1⟩]⟩] = [⟨S[n].th, 0, -23, 0⟩] := rfl
      rw [e2] at d
      obtain ⟨q3, c3, rfl, -⟩ := Rw.shape d.swap.1
      repeat (simp +decide only [SEM])
      refine ⟨fun _ => ?_, fun h => absurd rfl h⟩
      repeat (first | (simp +decide only [SEM]) | (focus (apply rw_fld d; (focus ((repeat (first | exact .h _ | refine .t _ _ ?_)); done)); (focus exact fun _ => rfl); (focus rfl); rotate_left; (focus (first | omega | (simp; done) | (simp; omega))))))
      refine ⟨fun _ => ?_, fun h => absurd rfl h⟩
      repeat (first | (simp +decide only [SEM]) | (focus (apply rw_fld d; (focus ((repeat (first | exact .h _ | refine .t _ _ ?_)); done)); (focus exact fun _ => rfl); (focus rfl); rotate_left; (focus (first | omega | (simp; done) | (simp; omega))))))
      refine ⟨fun _ => ?_, fun h => absurd rfl h⟩
      exact fn00 (fun _ _ => rfl) (aw w d.tail.tail.tail)
  · rw [hml, w64 (by omega) (by omega)]; omega
theorem ints_of {n : Nat} (h : OldSl pg w0 3 1 lv n) : ∃ l : List Int, l.length = n ∧ (∀ y ∈ l, I64 y) ∧ OldL w0 1 nc lv l ∧ n ≤ maxLen := by
  refine h.list fun vs hv => ?_
  obtain ⟨x, rfl, h⟩ := Rd.int Try.underlying3 hv
  exact ⟨x, rfl, I64.of_wf h⟩
theorem forget_law {n : Nat} {at_ : Int} (h : OldSl pg w0 3 1 lv n) (hm : Old w0 ∈ L) (d : D w0 L w) (k : ∀ w', D w0 L w' → K (.bool true) w') :
    Cl pg 4 #[lv, .int .i64 at_] K w := by
  obtain ⟨l, hl, _, ho, hn⟩ := ints_of h
  exact forget_ok (by omega) ho hm d k
end
end Go.Proofs.Ythjkmgckkacegaa
