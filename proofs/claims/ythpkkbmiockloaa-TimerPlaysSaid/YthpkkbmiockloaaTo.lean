/- Timers: the reference's Set. -/
import Derived.Test.YthpkkbmiockloaaTn
set_option maxRecDepth 100000
set_option maxHeartbeats 8000000
namespace Go.Proofs.Ythpkkbmiockloaa
open Go Go.Jac
def SetTail (a0 a1 a2 v15 : Value) (KR : Value → WP) : WP :=
  FnV pg (.func (.func 20) #[] #[]) #[a0, v15] fun _ =>
  LoopC [(.bool false), (.slice none 0 0), (.int .i64 0)] fun vK vs => AllE <|
  UN vs fun v10 vs =>
  UN vs fun v9 vs =>
  UN vs fun v11 _ =>
  NilC a0 fun v46 =>
  FA v46 0 fun v47 =>
  Ld1 v47 fun v48 =>
  LenS v48 fun v49 =>
  BinI .lss v11 v49 fun v50 =>
  Cnd v50 (NilC a0 fun v54 =>
  FA v54 0 fun v55 =>
  Ld1 v55 fun v56 =>
  IA 2 v56 v11 fun v58 =>
  LdN 2 v58 fun v59 =>
  New 53 #[(.int .i64 0), (.int .i64 0)] fun v12 =>
  St 2 v12 v59 fun _ =>
  Un .not v10 fun v61 =>
  Grd v61 true (FA v12 0 fun v64 =>
  Ld1 v64 fun v65 =>
  BinI .lss a2 v65 fun v66 =>
  Grd v66 false (FA v12 0 fun v69 =>
  Ld1 v69 fun v70 =>
  BinI .eql a2 v70 fun v71 =>
  Grd v71 true (FA v12 1 fun v74 =>
  Ld1 v74 fun v75 =>
  BinI .lss a1 v75 fun v76 =>
  Cnd v76 (Ex pg (bldS #[(.int .i64 0), (.int .i64 0)] [(0, 1), (1, 1)] #[(0, a2), (1, a1)]) fun v83 =>
  BSlC 53 2 #[(.int .i64 0), (.int .i64 0)] 1 #[(0, v83)] fun v84 =>
  AppC 53 2 16 #[(.int .i64 0), (.int .i64 0)] v9 v84 fun v85 =>
  LdN 2 v12 fun v87 =>
  BSlC 53 2 #[(.int .i64 0), (.int .i64 0)] 1 #[(0, v87)] fun v88 =>
  AppC 53 2 16 #[(.int .i64 0), (.int .i64 0)] v85 v88 fun v89 =>
  BinI .add v11 (.int .i64 1) fun v52 =>
  vK [(.bool true), v89, v52])
  (LdN 2 v12 fun v87_1 =>
  BSlC 53 2 #[(.int .i64 0), (.int .i64 0)] 1 #[(0, v87_1)] fun v88_1 =>
  AppC 53 2 16 #[(.int .i64 0), (.int .i64 0)] v9 v88_1 fun v89_1 =>
  BinI .add v11 (.int .i64 1) fun v52_1 =>
  vK [v10, v89_1, v52_1]))
  (LdN 2 v12 fun v87_2 =>
  BSlC 53 2 #[(.int .i64 0), (.int .i64 0)] 1 #[(0, v87_2)] fun v88_2 =>
  AppC 53 2 16 #[(.int .i64 0), (.int .i64 0)] v9 v88_2 fun v89_2 =>
  BinI .add v11 (.int .i64 1) fun v52_2 =>
  vK [v10, v89_2, v52_2]))
  (Ex pg (bldS #[(.int .i64 0), (.int .i64 0)] [(0, 1), (1, 1)] #[(0, a2), (1, a1)]) fun v83_1 =>
  BSlC 53 2 #[(.int .i64 0), (.int .i64 0)] 1 #[(0, v83_1)] fun v84_1 =>
  AppC 53 2 16 #[(.int .i64 0), (.int .i64 0)] v9 v84_1 fun v85_1 =>
  LdN 2 v12 fun v87_3 =>
  BSlC 53 2 #[(.int .i64 0), (.int .i64 0)] 1 #[(0, v87_3)] fun v88_3 =>
  AppC 53 2 16 #[(.int .i64 0), (.int .i64 0)] v85_1 v88_3 fun v89_3 =>
  BinI .add v11 (.int .i64 1) fun v52_3 =>
  vK [(.bool true), v89_3, v52_3]))
  (LdN 2 v12 fun v87_4 =>
  BSlC 53 2 #[(.int .i64 0), (.int .i64 0)] 1 #[(0, v87_4)] fun v88_4 =>
  AppC 53 2 16 #[(.int .i64 0), (.int .i64 0)] v9 v88_4 fun v89_4 =>
  BinI .add v11 (.int .i64 1) fun v52_4 =>
  vK [v10, v89_4, v52_4]))
  (Un .not v10 fun v91 =>
  Cnd v91 (Ex pg (bldS #[(.int .i64 0), (.int .i64 0)] [(0, 1), (1, 1)] #[(0, a2), (1, a1)]) fun v95 =>
  BSlC 53 2 #[(.int .i64 0), (.int .i64 0)] 1 #[(0, v95)] fun v96 =>
  AppC 53 2 16 #[(.int .i64 0), (.int .i64 0)] v9 v96 fun v97 =>
  NilC a0 fun v100 =>
  FA v100 0 fun v101 =>
  St 1 v101 v97 fun _ =>
  KR (.tuple #[(.bool false), (.int .i64 0)]))
  (NilC a0 fun v100_1 =>
  FA v100_1 0 fun v101_1 =>
  St 1 v101_1 v9 fun _ =>
  KR (.tuple #[(.bool false), (.int .i64 0)])))
/-- One more, in its place. -/
def lt (a b : Te) : Prop := a.dl < b.dl ∨ (a.dl = b.dl ∧ a.key < b.key)
instance (a b : Te) : Decidable (lt a b) := by unfold lt; infer_instance
def ins (x : Te) : List Te → List Te
  | [] => [x]
  | e :: r => if lt x e then x :: e :: r else e :: ins x r
theorem ins_nil {x : Te} : ins x [] = [x] := rfl
theorem ins_cons {x e : Te} {r : List Te} : ins x (e :: r) = if lt x e then x :: e :: r else e :: ins x r := rfl
theorem ins_app {x : Te} : ∀ {A B : List Te}, (∀ e ∈ A, ¬ lt x e) → ins x (A ++ B) = A ++ ins x B
  | [], _, _ => rfl
  | e :: r, B, h => by
    rw [List.cons_append, ins_cons, if_neg (h e (by simp)), ins_app fun y hy => h y (by simp [hy])]; rfl
theorem ins_perm {x : Te} : ∀ {A : List Te}, (ins x A).Perm (x :: A)
  | [] => List.Perm.refl _
  | e :: r => by
    rw [ins_cons]
    split
    · exact List.Perm.refl _
    · exact (ins_perm.cons e).trans (List.Perm.swap x e r)
theorem ins_sorted {x : Te} : ∀ {A : List Te}, A.Pairwise le → (ins x A).Pairwise le
  | [], _ => by rw [ins_nil]; exact List.pairwise_singleton _ _
  | e :: r, h => by
    rw [ins_cons]
    rw [List.pairwise_cons] at h
    split
    · rename_i hl
      have hle : le x e := by unfold lt at hl; unfold le; omega
      refine List.pairwise_cons.2 ⟨fun y hy => ?_, List.pairwise_cons.2 h⟩
      rcases List.mem_cons.1 hy with rfl | hy
      · exact hle
      · exact le_trans hle (h.1 y hy)
    · rename_i hl
      have hle : le e x := by unfold lt at hl; unfold le; omega
      refine List.pairwise_cons.2 ⟨fun y hy => ?_, ins_sorted h.2⟩
      rcases List.mem_cons.1 (ins_perm.mem_iff.1 hy) with rfl | hy
      · exact hle
      · exact h.1 y hy
section
variable {w0 w : World} {L : List HP} {K : Value → WP} {b n : Nat} {most now : Int} {S : List Te} {sv lv v : Value}
theorem settail_ok {key dl at_ : Int} (hS : S.length ≤ 65536) (d : D w0 (Tr b most now S :: L) w) (k : ∀ w', D w0 (Tr b most now (ins ⟨dl, key⟩ (dropAt at_ S)) :: L) w' → K (.tuple #[.bool false, .int .i64 0]) w') : SetTail (.pointer (some ⟨b, 0, none⟩)) (.int .i64 key) (.int .i64 dl) (.int .i64 at_) K w := by
  unfold SetTail
  refine fn20 (fun _ _ => rfl) (RDrop_ok hS d fun w d => ?_)
  have hS' : (dropAt at_ S).length ≤ 65536 := by
    unfold dropAt
    split
    · exact Nat.le_trans (List.length_eraseIdx_le _ _) hS
    · exact hS
  generalize dropAt at_ S = S' at *
  obtain ⟨v, d⟩ := Tr.out d
  obtain ⟨q, c, rfl, -⟩ := Ro.shape d.swap
  refine ⟨fun vs w' => ∃ (i : Nat) (lv : Value) (pu : Bool) (O : List Te), vs = [.bool pu, lv, .int .i64 i] ∧ i ≤ S'.length ∧ O.length ≤ i + 1 ∧ (pu = false → O = S'.take i ∧ ∀ e ∈ S'.take i, ¬ lt ⟨dl, key⟩ e) ∧ (pu = true → O ++ S'.drop i = ins ⟨dl, key⟩ S') ∧ D w0 (Rw 53 2 lv O.length (O.flatMap ec) :: cel b 43 [.slice q S'.length c, .int .i64 most, .int .i64 now] :: Ro 53 2 (.slice q S'.length c) S'.length (S'.flatMap ec) :: L) w', fun vs _ => match vs with | [_, _, .int _ i] => S'.length - i.toNat | _ => 0, ⟨0, _, false, [], rfl, by omega, by simp, fun _ => ⟨rfl, by simp⟩, (fun h => by cases h), ⟨Rw.nil _ _ d.1, d.2⟩⟩, ?_⟩
  clear d
  rintro _ w ⟨i, lv, pu, O, rfl, hi, hO, hp0, hp1, d⟩ _
  simp only [UN]
  repeat (first | (simp +decide only [SEM]) | (apply ldm d; (focus ((repeat (first | exact .h _ | refine .t _ _ ?_)); done)); (focus rfl)))
  refine ⟨fun hlt => ?_, fun hge => ?_⟩
  · have hlt' : i < S'.length := by omega
    have hdr : S'.drop i = S'[i] :: S'.drop (i + 1) := List.drop_eq_getElem_cons hlt'
    repeat (apply ldm d; (focus ((repeat (first | exact .h _ | refine .t _ _ ?_)); done)); (focus rfl))
    refine ro_elN ec_len (D.sel [2] d) hlt' ?_
    have htk : S'.take (i + 1) = S'.take i ++ [S'[i]] := List.take_succ_eq_append_getElem hlt'
    have hsp : S'.take i ++ S'[i] :: S'.drop (i + 1) = S' := by rw [← hdr]; exact List.take_append_drop i S'
    cases pu
    · obtain ⟨rfl, hno⟩ := hp0 rfl
      have hlen : (S'.take i).length = i := by rw [List.length_take]; omega
      have keepF : ¬ lt ⟨dl, key⟩ S'[i] → ∀ lv2 w, D w0 (Rw 53 2 lv2 ((S'.take i).length + 1) ((S'.take i).flatMap ec ++ ec S'[i]) :: cel b 43 [.slice q S'.length c, .int .i64 most, .int .i64 now] :: Ro 53 2 (.slice q S'.length c) S'.length (S'.flatMap ec) :: L) w → (∃ (i' : Nat) (lv : Value) (pu : Bool) (O : List Te), [.bool false, lv2, .int .i64 ((i : Int) + 1)] = [.bool pu, lv, .int .i64 i'] ∧ i' ≤ S'.length ∧ O.length ≤ i' + 1 ∧ (pu = false → O = S'.take i' ∧ ∀ e ∈ S'.take i', ¬ lt ⟨dl, key⟩ e) ∧ (pu = true → O ++ S'.drop i' = ins ⟨dl, key⟩ S') ∧ D w0 (Rw 53 2 lv O.length (O.flatMap ec) :: cel b 43 [.slice q S'.length c, .int .i64 most, .int .i64 now] :: Ro 53 2 (.slice q S'.length c) S'.length (S'.flatMap ec) :: L) w) ∧ S'.length - ((i : Int) + 1).toNat < S'.length - i := fun hn lv2 w d =>
        ⟨⟨i + 1, lv2, false, S'.take (i + 1), by simp, by omega, by rw [List.length_take]; omega, fun _ => ⟨rfl, fun e he => by
          rw [htk] at he
          rcases List.mem_append.1 he with he | he
          · exact hno e he
          · rw [List.mem_singleton.1 he]; exact hn⟩, (fun h => by cases h), by rw [htk, List.length_append, List.flatMap_append, List.flatMap_singleton]; exact d⟩, by omega⟩
      have putF : lt ⟨dl, key⟩ S'[i] → ∀ lv2 w, D w0 (Rw 53 2 lv2 ((S'.take i).length + 1 + 1) ((S'.take i).flatMap ec ++ ec ⟨dl, key⟩ ++ ec S'[i]) :: cel b 43 [.slice q S'.length c, .int .i64 most, .int .i64 now] :: Ro 53 2 (.slice q S'.length c) S'.length (S'.flatMap ec) :: L) w → (∃ (i' : Nat) (lv : Value) (pu : Bool) (O : List Te), [.bool true, lv2, .int .i64 ((i : Int) + 1)] = [.bool pu, lv, .int .i64 i'] ∧ i' ≤ S'.length ∧ O.length ≤ i' + 1 ∧ (pu = false → O = S'.take i' ∧ ∀ e ∈ S'.take i', ¬ lt ⟨dl, key⟩ e) ∧ (pu = true → O ++ S'.drop i' = ins ⟨dl, key⟩ S') ∧ D w0 (Rw 53 2 lv O.length (O.flatMap ec) :: cel b 43 [.slice q S'.length c, .int .i64 most, .int .i64 now] :: Ro 53 2 (.slice q S'.length c) S'.length (S'.flatMap ec) :: L) w) ∧ S'.length - ((i : Int) + 1).toNat < S'.length - i := fun hn lv2 w d =>
        ⟨⟨i + 1, lv2, true, S'.take i ++ [⟨dl, key⟩] ++ [S'[i]], by simp, by omega, by simp; omega, (fun h => by cases h), fun _ => by
          have e : ins ⟨dl, key⟩ S' = S'.take i ++ ins ⟨dl, key⟩ (S'.drop i) := by rw [← ins_app hno, List.take_append_drop]
          rw [e, hdr, ins_cons, if_pos hn]; simp, by rw [List.length_append, List.length_append, List.flatMap_append, List.flatMap_append, List.flatMap_singleton, List.flatMap_singleton]; exact d⟩, by omega⟩
      repeat (first | (simp +decide only [SEM]) | (apply ldm d; (focus ((repeat (first | exact .h _ | refine .t _ _ ?_)); done)); (focus rfl)) | (refine d_new _ d fun bn w d => ?_) | (apply swm d; (focus ((repeat (first | exact .h _ | apply Rp.t)); done)); (focus rfl); (focus rfl); (focus exact ones rfl); intro w d; simp only [SPL] at d))
      refine ⟨fun h1 => ?_, fun h1 => ?_⟩
      · repeat (first | (simp +decide only [SEM]) | (apply ldm d; (focus ((repeat (first | exact .h _ | refine .t _ _ ?_)); done)); (focus rfl)))
        refine ⟨fun h2 => ?_, fun h2 => ?_⟩
        · repeat (first | (simp +decide only [SEM]) | (apply ldm d; (focus ((repeat (first | exact .h _ | refine .t _ _ ?_)); done)); (focus rfl)))
          refine ⟨fun h3 => ?_, fun h3 => ?_⟩
          · have hlt : lt ⟨dl, key⟩ S'[i] := .inr ⟨h2, h3⟩
            repeat (first | (((repeat (refine bld_c rfl rfl (by simp) ?_; simp only [List.set_cons_zero, List.set_cons_succ])); refine bld_n ?_)) | refine bsl1 (by first | rfl | (simp only [cells_agg, cells_int, cells_bool, cells_ptr, cells_sl, cells_map, cells_fn, List.drop_succ_cons, List.drop_zero, List.take_succ_cons, List.take_zero, Nat.zero_add, Nat.reduceAdd, Int.toNat_natCast, Int.toNat_zero]; rfl)) rfl d (by decide) (by decide) fun bn w d => ?_)
            refine d_app (m := 1) (D.sel [2] d) (src_of (gc1 (D.sel [2] d)) rfl (ones rfl) 1) rfl (by omega) (by omega) (by omega) (ones rfl) fun lv2 w d => ?_
            repeat (first | (apply lam d; (focus ((repeat (first | exact .h _ | refine .t _ _ ?_)); done)); (focus rfl)) | refine bsl1 (by first | rfl | (simp only [cells_agg, cells_int, cells_bool, cells_ptr, cells_sl, cells_map, cells_fn, List.drop_succ_cons, List.drop_zero, List.take_succ_cons, List.take_zero, Nat.zero_add, Nat.reduceAdd, Int.toNat_natCast, Int.toNat_zero]; rfl)) rfl d (by decide) (by decide) fun bn w d => ?_)
            refine d_app (m := 1) (D.sel [1] d) (src_of (gc1 (D.sel [1] d)) rfl (ones rfl) 1) rfl (by omega) (by omega) (by omega) (ones rfl) fun lv3 w d => ?_
            repeat (simp +decide only [SEM])
            rw [w64 (by omega) (by omega)]
            exact putF hlt lv3 w (D.sel [1, 2, 3, 0] d).tail.tail.tail
          · have hlt : ¬ lt ⟨dl, key⟩ S'[i] := fun h => by unfold lt at h; simp only at h; omega
            repeat (first | (apply lam d; (focus ((repeat (first | exact .h _ | refine .t _ _ ?_)); done)); (focus rfl)) | refine bsl1 (by first | rfl | (simp only [cells_agg, cells_int, cells_bool, cells_ptr, cells_sl, cells_map, cells_fn, List.drop_succ_cons, List.drop_zero, List.take_succ_cons, List.take_zero, Nat.zero_add, Nat.reduceAdd, Int.toNat_natCast, Int.toNat_zero]; rfl)) rfl d (by decide) (by decide) fun bn w d => ?_)
            refine d_app (m := 1) (D.sel [2] d) (src_of (gc1 (D.sel [2] d)) rfl (ones rfl) 1) rfl (by omega) (by omega) (by omega) (ones rfl) fun lv2 w d => ?_
            repeat (simp +decide only [SEM])
            rw [w64 (by omega) (by omega)]
            exact keepF hlt lv2 w (D.sel [1, 2, 0] d).tail.tail
        · have hlt : ¬ lt ⟨dl, key⟩ S'[i] := fun h => by unfold lt at h; simp only at h; omega
          repeat (first | (apply lam d; (focus ((repeat (first | exact .h _ | refine .t _ _ ?_)); done)); (focus rfl)) | refine bsl1 (by first | rfl | (simp only [cells_agg, cells_int, cells_bool, cells_ptr, cells_sl, cells_map, cells_fn, List.drop_succ_cons, List.drop_zero, List.take_succ_cons, List.take_zero, Nat.zero_add, Nat.reduceAdd, Int.toNat_natCast, Int.toNat_zero]; rfl)) rfl d (by decide) (by decide) fun bn w d => ?_)
          refine d_app (m := 1) (D.sel [2] d) (src_of (gc1 (D.sel [2] d)) rfl (ones rfl) 1) rfl (by omega) (by omega) (by omega) (ones rfl) fun lv2 w d => ?_
          repeat (simp +decide only [SEM])
          rw [w64 (by omega) (by omega)]
          exact keepF hlt lv2 w (D.sel [1, 2, 0] d).tail.tail
      · have hlt : lt ⟨dl, key⟩ S'[i] := .inl h1
        repeat (first | (((repeat (refine bld_c rfl rfl (by simp) ?_; simp only [List.set_cons_zero, List.set_cons_succ])); refine bld_n ?_)) | refine bsl1 (by first | rfl | (simp only [cells_agg, cells_int, cells_bool, cells_ptr, cells_sl, cells_map, cells_fn, List.drop_succ_cons, List.drop_zero, List.take_succ_cons, List.take_zero, Nat.zero_add, Nat.reduceAdd, Int.toNat_natCast, Int.toNat_zero]; rfl)) rfl d (by decide) (by decide) fun bn w d => ?_)
        refine d_app (m := 1) (D.sel [2] d) (src_of (gc1 (D.sel [2] d)) rfl (ones rfl) 1) rfl (by omega) (by omega) (by omega) (ones rfl) fun lv2 w d => ?_
        repeat (first | (apply lam d; (focus ((repeat (first | exact .h _ | refine .t _ _ ?_)); done)); (focus rfl)) | refine bsl1 (by first | rfl | (simp only [cells_agg, cells_int, cells_bool, cells_ptr, cells_sl, cells_map, cells_fn, List.drop_succ_cons, List.drop_zero, List.take_succ_cons, List.take_zero, Nat.zero_add, Nat.reduceAdd, Int.toNat_natCast, Int.toNat_zero]; rfl)) rfl d (by decide) (by decide) fun bn w d => ?_)
        refine d_app (m := 1) (D.sel [1] d) (src_of (gc1 (D.sel [1] d)) rfl (ones rfl) 1) rfl (by omega) (by omega) (by omega) (ones rfl) fun lv3 w d => ?_
        repeat (simp +decide only [SEM])
        rw [w64 (by omega) (by omega)]
        exact putF hlt lv3 w (D.sel [1, 2, 3, 0] d).tail.tail.tail
    · have hp := hp1 rfl
      repeat (first | (simp +decide only [SEM]) | (apply lam d; (focus ((repeat (first | exact .h _ | refine .t _ _ ?_)); done)); (focus rfl)) | (refine d_new _ d fun bn w d => ?_) | refine bsl1 (by first | rfl | (simp only [cells_agg, cells_int, cells_bool, cells_ptr, cells_sl, cells_map, cells_fn, List.drop_succ_cons, List.drop_zero, List.take_succ_cons, List.take_zero, Nat.zero_add, Nat.reduceAdd, Int.toNat_natCast, Int.toNat_zero]; rfl)) rfl d (by decide) (by decide) fun bn w d => ?_ | (apply swm d; (focus ((repeat (first | exact .h _ | apply Rp.t)); done)); (focus rfl); (focus rfl); (focus exact ones rfl); intro w d; simp only [SPL] at d))
      refine d_app (m := 1) (D.sel [2] d) (src_of (gc1 (D.sel [2] d)) rfl (ones rfl) 1) rfl (by omega) (by omega) (by omega) (ones rfl) fun lv2 w d => ?_
      repeat (simp +decide only [SEM])
      rw [w64 (by omega) (by omega)]
      refine ⟨⟨i + 1, lv2, true, O ++ [S'[i]], by simp, by omega, by simp; omega, (fun h => by cases h), fun _ => ?_, ?_⟩, by show S'.length - ((i : Int) + 1).toNat < S'.length - (i : Int).toNat; omega⟩
      · rw [← hp, hdr]; simp
      · rw [List.length_append, List.flatMap_append, List.flatMap_singleton]
        exact (D.sel [1, 2, 0] d).tail.tail
  · have hi' : i = S'.length := by omega
    subst hi'
    cases pu
    · obtain ⟨rfl, hno⟩ := hp0 rfl
      rw [List.take_length] at *
      repeat (first | (simp +decide only [SEM]) | (((repeat (refine bld_c rfl rfl (by simp) ?_; simp only [List.set_cons_zero, List.set_cons_succ])); refine bld_n ?_)) | refine bsl1 (by first | rfl | (simp only [cells_agg, cells_int, cells_bool, cells_ptr, cells_sl, cells_map, cells_fn, List.drop_succ_cons, List.drop_zero, List.take_succ_cons, List.take_zero, Nat.zero_add, Nat.reduceAdd, Int.toNat_natCast, Int.toNat_zero]; rfl)) rfl d (by decide) (by decide) fun bn w d => ?_)
      refine d_app (m := 1) (D.sel [1] d) (src_of (gc1 (D.sel [1] d)) rfl (ones rfl) 1) rfl (by omega) (by omega) (by omega) (ones rfl) fun lv2 w d => ?_
      obtain ⟨q2, c2, rfl, -⟩ := Rw.shape d.1
      repeat (first | (simp +decide only [SEM]) | (apply stm d; (focus ((repeat (first | exact .h _ | apply Rp.t)); done)); (focus rfl); (focus simp); (focus exact ones rfl); intro w d; simp only [SPL] at d))
      refine k _ (Tr.mk (v := .slice q2 (S'.length + 1) c2) ?_)
      have e : ins ⟨dl, key⟩ S' = S' ++ [⟨dl, key⟩] := by
        have := ins_app (x := ⟨dl, key⟩) (B := []) hno
        rwa [List.append_nil] at this
      rw [e, List.length_append, List.flatMap_append, List.flatMap_singleton]
      exact D.swap (Ro.of (D.sel [1, 3, 0, 2] d).tail.tail)
    · have hp := hp1 rfl
      rw [List.drop_length, List.append_nil] at hp
      obtain ⟨q2, c2, rfl, -⟩ := Rw.shape d.1
      repeat (first | (simp +decide only [SEM]) | (apply stm d; (focus ((repeat (first | exact .h _ | apply Rp.t)); done)); (focus rfl); (focus simp); (focus exact ones rfl); intro w d; simp only [SPL] at d))
      refine k _ (Tr.mk (v := .slice q2 O.length c2) ?_)
      rw [← hp]
      exact D.swap (Ro.of (D.sel [2, 0, 1] d).tail)
end
end Go.Proofs.Ythpkkbmiockloaa
