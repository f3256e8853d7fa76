/- The keys of a map, by size: told, not run. -/
import Derived.Test.YtcdkbkgpgemfgaaGreatDoorKm
import Derived.Test.YtcdkbkgpgemfgaaGreatDoorSi
set_option maxRecDepth 100000
set_option maxHeartbeats 8000000
namespace Go.Jac
open Go
def insI (a : Int) : List Int → List Int
  | [] => [a]
  | b :: r => cond (decide (a ≤ b)) (a :: b :: r) (b :: insI a r)
def isrt : List Int → List Int
  | [] => []
  | a :: r => insI a (isrt r)
theorem insI_perm (a : Int) : ∀ l : List Int, (insI a l).Perm (a :: l)
  | [] => List.Perm.refl _
  | b :: r => by
    unfold insI
    cases decide (a ≤ b) with
    | true => exact List.Perm.refl _
    | false => exact ((insI_perm a r).cons b).trans (List.Perm.swap a b r)
theorem isrt_perm : ∀ l : List Int, (isrt l).Perm l
  | [] => List.Perm.refl _
  | a :: r => (insI_perm a (isrt r)).trans ((isrt_perm r).cons a)
theorem insI_up (a : Int) : ∀ l : List Int, l.Pairwise (· ≤ ·) → (insI a l).Pairwise (· ≤ ·)
  | [], _ => by simp [insI]
  | b :: r, h => by
    unfold insI
    rw [List.pairwise_cons] at h
    by_cases hab : a ≤ b
    · simp only [hab, decide_true, cond_true, List.pairwise_cons, List.mem_cons]
      exact ⟨fun x hx => by rcases hx with rfl | hx; exact hab; have := h.1 x hx; omega, h.1, h.2⟩
    · simp only [hab, decide_false, cond_false, List.pairwise_cons]
      refine ⟨fun x hx => ?_, insI_up a r h.2⟩
      rcases List.mem_cons.1 ((insI_perm a r).mem_iff.1 hx) with rfl | hx
      · omega
      · exact h.1 x hx
theorem isrt_up : ∀ l : List Int, (isrt l).Pairwise (· ≤ ·)
  | [] => List.Pairwise.nil
  | a :: r => insI_up a _ (isrt_up r)
theorem up_uniq : ∀ {A B : List Int}, A.Pairwise (· ≤ ·) → B.Pairwise (· ≤ ·) → A.Perm B → A = B
  | [], B, _, _, p => by rw [List.nil_perm.1 p]
  | a :: A, [], _, _, p => by have := p.length_eq; simp at this
  | a :: A, b :: B, ha, hb, p => by
    rw [List.pairwise_cons] at ha hb
    have h1 : a ≤ b := by
      rcases List.mem_cons.1 (p.mem_iff.2 (List.mem_cons_self (a := b) (l := B))) with h | h
      · omega
      · exact ha.1 b h
    have h2 : b ≤ a := by
      rcases List.mem_cons.1 (p.mem_iff.1 (List.mem_cons_self (a := a) (l := A))) with h | h
      · omega
      · exact hb.1 a h
    have : a = b := by omega
    subst this
    rw [up_uniq ha.2 hb.2 p.cons_inv]
theorem srt_isrt {S T : List Int} (h1 : S.Nodup) (h2 : T.Nodup) (h : ∀ x, x ∈ S ↔ x ∈ T) : srt S = isrt T :=
  up_uniq (srt_up S) (isrt_up T) ((srt_perm S).trans (((List.perm_ext_iff_of_nodup h1 h2).2 h).trans (isrt_perm T).symm))
theorem Ext_1 {a : Value} {K : Value → WP} {w : World} : Ext (.tuple #[a]) 0 K w = K a w := propext Iff.rfl
theorem updB_same : ∀ {bs : List (Nat × XB)} {b : Nat} {x : XB}, findB bs b = some x → updB bs b x = bs := fun h => by
  obtain ⟨L1, L2, e, h2, _⟩ := find_split h
  rw [h2, ← e]
def hasK (KL : List (Nat × Nat)) (k : Nat) : Bool := match KL with
  | [] => false
  | (a, _) :: r => cond (Nat.beq a k) true (hasK r k)
theorem hasK_mem {k : Nat} : ∀ {KL : List (Nat × Nat)}, hasK KL k = true → ∃ t, (k, t) ∈ KL
  | [], h => by cases h
  | (a, t) :: r, h => by
    unfold hasK at h
    cases hb : Nat.beq a k with
    | true => cases beq_eq hb; exact ⟨t, by simp⟩
    | false =>
      rw [hb] at h
      obtain ⟨t', h'⟩ := hasK_mem (KL := r) h
      exact ⟨t', by simp [h']⟩
/-- slices.Sorted of a map's keys. -/
def sortedX (KL : List (Nat × Nat)) (ti : Nat) (xs : List X) (S : XS) : R (X × XS) := match xs with
  | [.fn (.func kf) [] [.ptr c 0]] => need (hasK KL kf) 300 (match findB S.bs c with
    | some (.bl _ none [.mp m]) => S.delK c fun S1 => (match findB S1.bs m with
      | some (.mp es) => need (Nat.ble es.length 1000000) 301 (match es with
        | [] => .ok (.lit (.slice none 0 0), S1)
        | _ => S1.addK (.bl ti (some 1) ((isrt (es.map (·.1))).map fun n => X.int .i64 n)) fun S2 => .ok (.so S.nx 0 es.length 0, S2))
      | _ => .no 302)
    | _ => .no 303)
  | _ => .no 304
end Go.Jac
namespace Go.Proofs.YtcdkbkgpgemfgaaGreatDoor
open Go Go.Jac
section
variable {w0 w : World} {L : List HP} {K : Value → WP} {b m n kf : Nat} {t et tc : TypeId} {g : Int → Option Value}
/-- What the closure of maps.Keys asks. -/
def VKeys (t : TypeId) (a0 a1 : Value) (KR : Value → WP) : WP :=
  Ld1 a1 fun v4 =>
  Ex pg (Instr.range t v4) fun v5 =>
  LoopC [] fun vK _ => AllE <|
  Ex pg (Instr.next v5 false 0) fun v6 =>
  Ext v6 0 fun v7 =>
  Cnd v7 (Ex pg (Instr.entry v5) fun v8 =>
  Ext v8 0 fun v9 =>
  FnV pg a0 #[v9] fun v12 =>
  Un .not v12 fun v13 =>
  Cnd v13 (KR (.tuple #[]))
  (vK []))
  (KR (.tuple #[]))
structure KeysOk (kf : Nat) (t : TypeId) : Prop where
  under : ∃ et, pg.underlying t = some (.map 3 et)
  ent : ∀ a w, (callFunc kf a).run pg w = .ok (.enter kf a) w
  call : ∀ {a0 a1 : Value} {K : Value → WP} {w : World}, VKeys t a0 a1 K w → Cl pg kf #[a0, a1] K w
theorem appSeq_ok {c : Nat} (ok : KeysOk kf t) (hn : n ≤ 1000000) (d : D w0 (cel c tc [.map (some m)] :: Mp m g n :: L) w)
    (k : ∀ (S : List Int) sv w', S.Nodup → (∀ x, x ∈ S ↔ (g x).isSome = true) → (S = [] → sv = .slice none 0 0) → D w0 (Rw 3 1 sv S.length (S.flatMap nI) :: Mp m g n :: L) w' → K sv w') :
    Cl pg 134 #[.slice none 0 0, .func (.func kf) #[] #[.pointer (some ⟨c, 0, none⟩)]] K w := by
  obtain ⟨⟨et, ht⟩, hent, hcall⟩ := ok
  refine V.slices_AppendSeq_int_int_ok ?_
  unfold V.slices_AppendSeq_int_int
  simp only [cells_sl]
  refine d_new _ d fun bo w d => ?_
  refine d_rf0 hent d fun dm l r0 w hr hp hro d => ?_
  refine hcall ?_
  unfold VKeys
  repeat (first | refine drw d fun w d => ?_ | (simp +decide only [SEM]) | (apply ldm d; (focus ((repeat (first | exact .h _ | refine .t _ _ ?_)); done)); (focus rfl)) | (apply lam d; (focus ((repeat (first | exact .h _ | refine .t _ _ ?_)); done)); (focus rfl)) | (((repeat (refine bld_c rfl rfl (by simp) ?_; simp only [List.set_cons_zero, List.set_cons_succ])); refine bld_n ?_)) | (refine d_new _ d fun bn w d => ?_) | refine bsl1 (by first | rfl | (simp only [cells_agg, cells_int, cells_bool, cells_ptr, cells_sl, cells_map, cells_fn, List.drop_succ_cons, List.drop_zero, List.take_succ_cons, List.take_zero, Nat.zero_add, Nat.reduceAdd, Int.toNat_natCast, Int.toNat_zero]; rfl)) rfl d (by decide) (by decide) fun bn w d => ?_ | refine bsl2 rfl rfl d fun bn w d => ?_ | refine bsl0 d fun bn w d => ?_ | refine qt d ?_ | refine qe_nil ?_ | refine qe_fa ?_ | refine qe_len ?_ | (apply qlm; (focus ((repeat (first | exact .h _ | refine .t _ _ ?_)); done)); (focus rfl)) | (apply qam; (focus ((repeat (first | exact .h _ | refine .t _ _ ?_)); done)); (focus rfl)) | refine qe _ (fun w d => by ((repeat (refine bld_c rfl rfl (by simp) ?_; simp only [List.set_cons_zero, List.set_cons_succ])); refine bld_n ?_); exact ⟨rfl, rfl⟩) ?_ | refine qe_ext rfl ?_ | refine qe_op (fun _ _ => BinI_add) ?_ | refine qe_op (fun _ _ => BinI_sub) ?_ | refine qe_op (fun _ _ => BinI_mul) ?_ | refine qe_op (fun _ _ => BinI_eql) ?_ | refine qe_op (fun _ _ => BinI_neq) ?_ | refine qe_op (fun _ _ => BinI_lss) ?_ | refine qe_op (fun _ _ => BinI_leq) ?_ | refine qe_op (fun _ _ => BinI_gtr) ?_ | refine qe_op (fun _ _ => BinI_geq) ?_ | refine qe_op (fun _ _ => Un_not _) ?_ | refine qia (by first | omega | (simp; omega)) ?_ | refine qia0 (by first | omega | (simp; omega)) ?_ | (focus (apply qln; (focus ((repeat (first | exact .h _ | refine .t _ _ ?_)); done)); (focus exact fun _ => rfl); rotate_left; (focus (first | omega | (simp; done) | (simp; omega))))) | (focus (apply ql1; (focus ((repeat (first | exact .h _ | refine .t _ _ ?_)); done)); (focus exact fun _ => rfl); (focus rfl); rotate_left; (focus (first | omega | (simp; done) | (simp; omega))))) | (focus (apply ql0; (focus ((repeat (first | exact .h _ | refine .t _ _ ?_)); done)); (focus exact fun _ => rfl); (focus rfl); rotate_left; (focus (first | omega | (simp; done) | (simp; omega))))) | (apply swm d; (focus ((repeat (first | exact .h _ | apply Rp.t)); done)); (focus rfl); (focus rfl); (focus exact ones rfl); intro w d; simp only [SPL] at d) | (apply stm d; (focus ((repeat (first | exact .h _ | apply Rp.t)); done)); (focus rfl); (focus simp); (focus exact ones rfl); intro w d; simp only [SPL] at d) | (apply lpm d; (focus ((repeat (first | exact .h _ | refine .t _ _ ?_)); done)); (focus (simp only [SEM]; rfl)); (focus rfl)) | (focus (apply rw_fld d; (focus ((repeat (first | exact .h _ | refine .t _ _ ?_)); done)); (focus exact fun _ => rfl); (focus rfl); rotate_left; (focus (first | omega | (simp; done) | (simp; omega))))) | (focus (apply rw_el1 d; (focus ((repeat (first | exact .h _ | refine .t _ _ ?_)); done)); (focus exact fun _ => rfl); (focus rfl); rotate_left; (focus (first | omega | (simp; done) | (simp; omega))))) | (focus (apply rw_elN d; (focus ((repeat (first | exact .h _ | refine .t _ _ ?_)); done)); (focus exact fun _ => rfl); rotate_left; (focus (first | omega | (simp; done) | (simp; omega))))) | (focus (apply rw_fld0 d; (focus ((repeat (first | exact .h _ | refine .t _ _ ?_)); done)); (focus exact fun _ => rfl); (focus rfl); rotate_left; (focus (first | omega | (simp; done) | (simp; omega))))) | (focus (apply rw_el10 d; (focus ((repeat (first | exact .h _ | refine .t _ _ ?_)); done)); (focus exact fun _ => rfl); (focus rfl); rotate_left; (focus (first | omega | (simp; done) | (simp; omega))))) | (focus (apply rw_elN0 d; (focus ((repeat (first | exact .h _ | refine .t _ _ ?_)); done)); (focus exact fun _ => rfl); rotate_left; (focus (first | omega | (simp; done) | (simp; omega))))) | refine ch d ?_ | refine ch (D.tail d) ?_ | refine ch (D.tail (D.tail d)) ?_ | refine ch (D.tail (D.tail (D.tail d))) ?_ | refine qe _ (fun w d => max2_ok ⟨rfl, rfl⟩) ?_ | refine qe _ (fun w d => min2_ok ⟨rfl, rfl⟩) ?_ | refine max2_ok ?_ | refine min2_ok ?_ | refine bsl3 rfl rfl rfl d fun bn w d => ?_ | refine qe_op (fun _ _ => BinI_quo rfl) ?_ | refine qe_op (fun _ _ => BinI_rem rfl) ?_ | refine qe_op (fun _ _ => BinI_or) ?_ | refine qe_op (fun _ _ => BinI_and) ?_ | refine qe_op (fun _ _ => BinI_andNot) ?_ | refine qe_op (fun _ _ => BinI_shl) ?_ | refine qe_op (fun _ _ => BinI_shr) ?_)
  have d := D.sel [4, 0, 2, 3, 1] d
  refine srange_ok ht d fun r mm w d => ?_
  have d0 : D w0 (Rw 3 1 (.slice none 0 0) (List.length ([] : List Int)) (([] : List Int).flatMap nI) :: _) w := ⟨Rw.nil _ _ d.1, d.2⟩
  have d := D.sel [1, 0, 2, 3, 4, 5] d0
  clear d0
  refine ⟨fun vs w => ∃ (S : List Int) (sv : Value) (mm : Nat) (Q : Int → Prop) (cur : Option (Int × Value)), vs = [] ∧ S.Nodup ∧ (∀ x, Q x ↔ x ∈ S) ∧ (∀ x ∈ S, (g x).isSome = true) ∧ (S = [] → sv = .slice none 0 0) ∧
    D w0 (Mis r m g n mm Q cur :: Rw 3 1 sv S.length (S.flatMap nI) :: pts l (.loop r0) :: cel bo 30 [sv] :: cel c tc [.map (some m)] :: pts dm (.deferred (some [])) :: L) w, fun _ w => mitLeft r m w, ⟨[], _, mm, _, none, rfl, by simp, by simp, by simp, fun _ => rfl, d⟩, ?_⟩
  clear d
  rintro _ w ⟨S, sv, mm, Q, cur, rfl, hnd, hQ, hS, hnil, d⟩ _
  dsimp only
  rw [Mis.left_eq d]
  obtain ⟨q4, c4, rfl, -⟩ := Rw.shape d.swap.1
  refine snextN_ok d (fun hall w d => ?_) fun m' kk v w hm' hnq hv d => ?_
  · rw [Ext_1]
    repeat (first | refine drw d fun w d => ?_ | (simp +decide only [SEM]) | (apply ldm d; (focus ((repeat (first | exact .h _ | refine .t _ _ ?_)); done)); (focus rfl)) | (apply lam d; (focus ((repeat (first | exact .h _ | refine .t _ _ ?_)); done)); (focus rfl)) | (((repeat (refine bld_c rfl rfl (by simp) ?_; simp only [List.set_cons_zero, List.set_cons_succ])); refine bld_n ?_)) | (refine d_new _ d fun bn w d => ?_) | refine bsl1 (by first | rfl | (simp only [cells_agg, cells_int, cells_bool, cells_ptr, cells_sl, cells_map, cells_fn, List.drop_succ_cons, List.drop_zero, List.take_succ_cons, List.take_zero, Nat.zero_add, Nat.reduceAdd, Int.toNat_natCast, Int.toNat_zero]; rfl)) rfl d (by decide) (by decide) fun bn w d => ?_ | refine bsl2 rfl rfl d fun bn w d => ?_ | refine bsl0 d fun bn w d => ?_ | refine qt d ?_ | refine qe_nil ?_ | refine qe_fa ?_ | refine qe_len ?_ | (apply qlm; (focus ((repeat (first | exact .h _ | refine .t _ _ ?_)); done)); (focus rfl)) | (apply qam; (focus ((repeat (first | exact .h _ | refine .t _ _ ?_)); done)); (focus rfl)) | refine qe _ (fun w d => by ((repeat (refine bld_c rfl rfl (by simp) ?_; simp only [List.set_cons_zero, List.set_cons_succ])); refine bld_n ?_); exact ⟨rfl, rfl⟩) ?_ | refine qe_ext rfl ?_ | refine qe_op (fun _ _ => BinI_add) ?_ | refine qe_op (fun _ _ => BinI_sub) ?_ | refine qe_op (fun _ _ => BinI_mul) ?_ | refine qe_op (fun _ _ => BinI_eql) ?_ | refine qe_op (fun _ _ => BinI_neq) ?_ | refine qe_op (fun _ _ => BinI_lss) ?_ | refine qe_op (fun _ _ => BinI_leq) ?_ | refine qe_op (fun _ _ => BinI_gtr) ?_ | refine qe_op (fun _ _ => BinI_geq) ?_ | refine qe_op (fun _ _ => Un_not _) ?_ | refine qia (by first | omega | (simp; omega)) ?_ | refine qia0 (by first | omega | (simp; omega)) ?_ | (focus (apply qln; (focus ((repeat (first | exact .h _ | refine .t _ _ ?_)); done)); (focus exact fun _ => rfl); rotate_left; (focus (first | omega | (simp; done) | (simp; omega))))) | (focus (apply ql1; (focus ((repeat (first | exact .h _ | refine .t _ _ ?_)); done)); (focus exact fun _ => rfl); (focus rfl); rotate_left; (focus (first | omega | (simp; done) | (simp; omega))))) | (focus (apply ql0; (focus ((repeat (first | exact .h _ | refine .t _ _ ?_)); done)); (focus exact fun _ => rfl); (focus rfl); rotate_left; (focus (first | omega | (simp; done) | (simp; omega))))) | (apply swm d; (focus ((repeat (first | exact .h _ | apply Rp.t)); done)); (focus rfl); (focus rfl); (focus exact ones rfl); intro w d; simp only [SPL] at d) | (apply stm d; (focus ((repeat (first | exact .h _ | apply Rp.t)); done)); (focus rfl); (focus simp); (focus exact ones rfl); intro w d; simp only [SPL] at d) | (apply lpm d; (focus ((repeat (first | exact .h _ | refine .t _ _ ?_)); done)); (focus (simp only [SEM]; rfl)); (focus rfl)) | (focus (apply rw_fld d; (focus ((repeat (first | exact .h _ | refine .t _ _ ?_)); done)); (focus exact fun _ => rfl); (focus rfl); rotate_left; (focus (first | omega | (simp; done) | (simp; omega))))) | (focus (apply rw_el1 d; (focus ((repeat (first | exact .h _ | refine .t _ _ ?_)); done)); (focus exact fun _ => rfl); (focus rfl); rotate_left; (focus (first | omega | (simp; done) | (simp; omega))))) | (focus (apply rw_elN d; (focus ((repeat (first | exact .h _ | refine .t _ _ ?_)); done)); (focus exact fun _ => rfl); rotate_left; (focus (first | omega | (simp; done) | (simp; omega))))) | (focus (apply rw_fld0 d; (focus ((repeat (first | exact .h _ | refine .t _ _ ?_)); done)); (focus exact fun _ => rfl); (focus rfl); rotate_left; (focus (first | omega | (simp; done) | (simp; omega))))) | (focus (apply rw_el10 d; (focus ((repeat (first | exact .h _ | refine .t _ _ ?_)); done)); (focus exact fun _ => rfl); (focus rfl); rotate_left; (focus (first | omega | (simp; done) | (simp; omega))))) | (focus (apply rw_elN0 d; (focus ((repeat (first | exact .h _ | refine .t _ _ ?_)); done)); (focus exact fun _ => rfl); rotate_left; (focus (first | omega | (simp; done) | (simp; omega))))) | refine ch d ?_ | refine ch (D.tail d) ?_ | refine ch (D.tail (D.tail d)) ?_ | refine ch (D.tail (D.tail (D.tail d))) ?_ | refine qe _ (fun w d => max2_ok ⟨rfl, rfl⟩) ?_ | refine qe _ (fun w d => min2_ok ⟨rfl, rfl⟩) ?_ | refine max2_ok ?_ | refine min2_ok ?_ | refine bsl3 rfl rfl rfl d fun bn w d => ?_ | refine qe_op (fun _ _ => BinI_quo rfl) ?_ | refine qe_op (fun _ _ => BinI_rem rfl) ?_ | refine qe_op (fun _ _ => BinI_or) ?_ | refine qe_op (fun _ _ => BinI_and) ?_ | refine qe_op (fun _ _ => BinI_andNot) ?_ | refine qe_op (fun _ _ => BinI_shl) ?_ | refine qe_op (fun _ _ => BinI_shr) ?_)
    refine ⟨r0, _, D.sel [2] d, sameLp.refl r0, by rw [hr]; simp, fun w d => ?_⟩
    rw [hp]
    simp only [JumpC]
    repeat (first | refine drw d fun w d => ?_ | (simp +decide only [SEM]) | (apply ldm d; (focus ((repeat (first | exact .h _ | refine .t _ _ ?_)); done)); (focus rfl)) | (apply lam d; (focus ((repeat (first | exact .h _ | refine .t _ _ ?_)); done)); (focus rfl)) | (((repeat (refine bld_c rfl rfl (by simp) ?_; simp only [List.set_cons_zero, List.set_cons_succ])); refine bld_n ?_)) | (refine d_new _ d fun bn w d => ?_) | refine bsl1 (by first | rfl | (simp only [cells_agg, cells_int, cells_bool, cells_ptr, cells_sl, cells_map, cells_fn, List.drop_succ_cons, List.drop_zero, List.take_succ_cons, List.take_zero, Nat.zero_add, Nat.reduceAdd, Int.toNat_natCast, Int.toNat_zero]; rfl)) rfl d (by decide) (by decide) fun bn w d => ?_ | refine bsl2 rfl rfl d fun bn w d => ?_ | refine bsl0 d fun bn w d => ?_ | refine qt d ?_ | refine qe_nil ?_ | refine qe_fa ?_ | refine qe_len ?_ | (apply qlm; (focus ((repeat (first | exact .h _ | refine .t _ _ ?_)); done)); (focus rfl)) | (apply qam; (focus ((repeat (first | exact .h _ | refine .t _ _ ?_)); done)); (focus rfl)) | refine qe _ (fun w d => by ((repeat (refine bld_c rfl rfl (by simp) ?_; simp only [List.set_cons_zero, List.set_cons_succ])); refine bld_n ?_); exact ⟨rfl, rfl⟩) ?_ | refine qe_ext rfl ?_ | refine qe_op (fun _ _ => BinI_add) ?_ | refine qe_op (fun _ _ => BinI_sub) ?_ | refine qe_op (fun _ _ => BinI_mul) ?_ | refine qe_op (fun _ _ => BinI_eql) ?_ | refine qe_op (fun _ _ => BinI_neq) ?_ | refine qe_op (fun _ _ => BinI_lss) ?_ | refine qe_op (fun _ _ => BinI_leq) ?_ | refine qe_op (fun _ _ => BinI_gtr) ?_ | refine qe_op (fun _ _ => BinI_geq) ?_ | refine qe_op (fun _ _ => Un_not _) ?_ | refine qia (by first | omega | (simp; omega)) ?_ | refine qia0 (by first | omega | (simp; omega)) ?_ | (focus (apply qln; (focus ((repeat (first | exact .h _ | refine .t _ _ ?_)); done)); (focus exact fun _ => rfl); rotate_left; (focus (first | omega | (simp; done) | (simp; omega))))) | (focus (apply ql1; (focus ((repeat (first | exact .h _ | refine .t _ _ ?_)); done)); (focus exact fun _ => rfl); (focus rfl); rotate_left; (focus (first | omega | (simp; done) | (simp; omega))))) | (focus (apply ql0; (focus ((repeat (first | exact .h _ | refine .t _ _ ?_)); done)); (focus exact fun _ => rfl); (focus rfl); rotate_left; (focus (first | omega | (simp; done) | (simp; omega))))) | (apply swm d; (focus ((repeat (first | exact .h _ | apply Rp.t)); done)); (focus rfl); (focus rfl); (focus exact ones rfl); intro w d; simp only [SPL] at d) | (apply stm d; (focus ((repeat (first | exact .h _ | apply Rp.t)); done)); (focus rfl); (focus simp); (focus exact ones rfl); intro w d; simp only [SPL] at d) | (apply lpm d; (focus ((repeat (first | exact .h _ | refine .t _ _ ?_)); done)); (focus (simp only [SEM]; rfl)); (focus rfl)) | (focus (apply rw_fld d; (focus ((repeat (first | exact .h _ | refine .t _ _ ?_)); done)); (focus exact fun _ => rfl); (focus rfl); rotate_left; (focus (first | omega | (simp; done) | (simp; omega))))) | (focus (apply rw_el1 d; (focus ((repeat (first | exact .h _ | refine .t _ _ ?_)); done)); (focus exact fun _ => rfl); (focus rfl); rotate_left; (focus (first | omega | (simp; done) | (simp; omega))))) | (focus (apply rw_elN d; (focus ((repeat (first | exact .h _ | refine .t _ _ ?_)); done)); (focus exact fun _ => rfl); rotate_left; (focus (first | omega | (simp; done) | (simp; omega))))) | (focus (apply rw_fld0 d; (focus ((repeat (first | exact .h _ | refine .t _ _ ?_)); done)); (focus exact fun _ => rfl); (focus rfl); rotate_left; (focus (first | omega | (simp; done) | (simp; omega))))) | (focus (apply rw_el10 d; (focus ((repeat (first | exact .h _ | refine .t _ _ ?_)); done)); (focus exact fun _ => rfl); (focus rfl); rotate_left; (focus (first | omega | (simp; done) | (simp; omega))))) | (focus (apply rw_elN0 d; (focus ((repeat (first | exact .h _ | refine .t _ _ ?_)); done)); (focus exact fun _ => rfl); rotate_left; (focus (first | omega | (simp; done) | (simp; omega))))) | refine ch d ?_ | refine ch (D.tail d) ?_ | refine ch (D.tail (D.tail d)) ?_ | refine ch (D.tail (D.tail (D.tail d))) ?_ | refine qe _ (fun w d => max2_ok ⟨rfl, rfl⟩) ?_ | refine qe _ (fun w d => min2_ok ⟨rfl, rfl⟩) ?_ | refine max2_ok ?_ | refine min2_ok ?_ | refine bsl3 rfl rfl rfl d fun bn w d => ?_ | refine qe_op (fun _ _ => BinI_quo rfl) ?_ | refine qe_op (fun _ _ => BinI_rem rfl) ?_ | refine qe_op (fun _ _ => BinI_or) ?_ | refine qe_op (fun _ _ => BinI_and) ?_ | refine qe_op (fun _ _ => BinI_andNot) ?_ | refine qe_op (fun _ _ => BinI_shl) ?_ | refine qe_op (fun _ _ => BinI_shr) ?_)
    refine d_lv1 (D.sel [4] d) fun w d => ?_
    refine k S _ w hnd (fun x => ⟨hS x, fun hx => ?_⟩) hnil ?_
    · obtain ⟨v, hv⟩ := Option.isSome_iff_exists.1 hx
      exact (hQ x).1 (hall x v hv)
    · exact D.swap (Mis.map (D.sel [2, 3] d).tail.tail)
  · repeat (first | refine drw d fun w d => ?_ | (simp +decide only [SEM]) | (apply ldm d; (focus ((repeat (first | exact .h _ | refine .t _ _ ?_)); done)); (focus rfl)) | (apply lam d; (focus ((repeat (first | exact .h _ | refine .t _ _ ?_)); done)); (focus rfl)) | (((repeat (refine bld_c rfl rfl (by simp) ?_; simp only [List.set_cons_zero, List.set_cons_succ])); refine bld_n ?_)) | (refine d_new _ d fun bn w d => ?_) | refine bsl1 (by first | rfl | (simp only [cells_agg, cells_int, cells_bool, cells_ptr, cells_sl, cells_map, cells_fn, List.drop_succ_cons, List.drop_zero, List.take_succ_cons, List.take_zero, Nat.zero_add, Nat.reduceAdd, Int.toNat_natCast, Int.toNat_zero]; rfl)) rfl d (by decide) (by decide) fun bn w d => ?_ | refine bsl2 rfl rfl d fun bn w d => ?_ | refine bsl0 d fun bn w d => ?_ | refine qt d ?_ | refine qe_nil ?_ | refine qe_fa ?_ | refine qe_len ?_ | (apply qlm; (focus ((repeat (first | exact .h _ | refine .t _ _ ?_)); done)); (focus rfl)) | (apply qam; (focus ((repeat (first | exact .h _ | refine .t _ _ ?_)); done)); (focus rfl)) | refine qe _ (fun w d => by ((repeat (refine bld_c rfl rfl (by simp) ?_; simp only [List.set_cons_zero, List.set_cons_succ])); refine bld_n ?_); exact ⟨rfl, rfl⟩) ?_ | refine qe_ext rfl ?_ | refine qe_op (fun _ _ => BinI_add) ?_ | refine qe_op (fun _ _ => BinI_sub) ?_ | refine qe_op (fun _ _ => BinI_mul) ?_ | refine qe_op (fun _ _ => BinI_eql) ?_ | refine qe_op (fun _ _ => BinI_neq) ?_ | refine qe_op (fun _ _ => BinI_lss) ?_ | refine qe_op (fun _ _ => BinI_leq) ?_ | refine qe_op (fun _ _ => BinI_gtr) ?_ | refine qe_op (fun _ _ => BinI_geq) ?_ | refine qe_op (fun _ _ => Un_not _) ?_ | refine qia (by first | omega | (simp; omega)) ?_ | refine qia0 (by first | omega | (simp; omega)) ?_ | (focus (apply qln; (focus ((repeat (first | exact .h _ | refine .t _ _ ?_)); done)); (focus exact fun _ => rfl); rotate_left; (focus (first | omega | (simp; done) | (simp; omega))))) | (focus (apply ql1; (focus ((repeat (first | exact .h _ | refine .t _ _ ?_)); done)); (focus exact fun _ => rfl); (focus rfl); rotate_left; (focus (first | omega | (simp; done) | (simp; omega))))) | (focus (apply ql0; (focus ((repeat (first | exact .h _ | refine .t _ _ ?_)); done)); (focus exact fun _ => rfl); (focus rfl); rotate_left; (focus (first | omega | (simp; done) | (simp; omega))))) | (apply swm d; (focus ((repeat (first | exact .h _ | apply Rp.t)); done)); (focus rfl); (focus rfl); (focus exact ones rfl); intro w d; simp only [SPL] at d) | (apply stm d; (focus ((repeat (first | exact .h _ | apply Rp.t)); done)); (focus rfl); (focus simp); (focus exact ones rfl); intro w d; simp only [SPL] at d) | (apply lpm d; (focus ((repeat (first | exact .h _ | refine .t _ _ ?_)); done)); (focus (simp only [SEM]; rfl)); (focus rfl)) | (focus (apply rw_fld d; (focus ((repeat (first | exact .h _ | refine .t _ _ ?_)); done)); (focus exact fun _ => rfl); (focus rfl); rotate_left; (focus (first | omega | (simp; done) | (simp; omega))))) | (focus (apply rw_el1 d; (focus ((repeat (first | exact .h _ | refine .t _ _ ?_)); done)); (focus exact fun _ => rfl); (focus rfl); rotate_left; (focus (first | omega | (simp; done) | (simp; omega))))) | (focus (apply rw_elN d; (focus ((repeat (first | exact .h _ | refine .t _ _ ?_)); done)); (focus exact fun _ => rfl); rotate_left; (focus (first | omega | (simp; done) | (simp; omega))))) | (focus (apply rw_fld0 d; (focus ((repeat (first | exact .h _ | refine .t _ _ ?_)); done)); (focus exact fun _ => rfl); (focus rfl); rotate_left; (focus (first | omega | (simp; done) | (simp; omega))))) | (focus (apply rw_el10 d; (focus ((repeat (first | exact .h _ | refine .t _ _ ?_)); done)); (focus exact fun _ => rfl); (focus rfl); rotate_left; (focus (first | omega | (simp; done) | (simp; omega))))) | (focus (apply rw_elN0 d; (focus ((repeat (first | exact .h _ | refine .t _ _ ?_)); done)); (focus exact fun _ => rfl); rotate_left; (focus (first | omega | (simp; done) | (simp; omega))))) | refine ch d ?_ | refine ch (D.tail d) ?_ | refine ch (D.tail (D.tail d)) ?_ | refine ch (D.tail (D.tail (D.tail d))) ?_ | refine qe _ (fun w d => max2_ok ⟨rfl, rfl⟩) ?_ | refine qe _ (fun w d => min2_ok ⟨rfl, rfl⟩) ?_ | refine max2_ok ?_ | refine min2_ok ?_ | refine bsl3 rfl rfl rfl d fun bn w d => ?_ | refine qe_op (fun _ _ => BinI_quo rfl) ?_ | refine qe_op (fun _ _ => BinI_rem rfl) ?_ | refine qe_op (fun _ _ => BinI_or) ?_ | refine qe_op (fun _ _ => BinI_and) ?_ | refine qe_op (fun _ _ => BinI_andNot) ?_ | refine qe_op (fun _ _ => BinI_shl) ?_ | refine qe_op (fun _ _ => BinI_shr) ?_)
    refine sentry_ok d ?_
    repeat (first | refine drw d fun w d => ?_ | (simp +decide only [SEM]) | (apply ldm d; (focus ((repeat (first | exact .h _ | refine .t _ _ ?_)); done)); (focus rfl)) | (apply lam d; (focus ((repeat (first | exact .h _ | refine .t _ _ ?_)); done)); (focus rfl)) | (((repeat (refine bld_c rfl rfl (by simp) ?_; simp only [List.set_cons_zero, List.set_cons_succ])); refine bld_n ?_)) | (refine d_new _ d fun bn w d => ?_) | refine bsl1 (by first | rfl | (simp only [cells_agg, cells_int, cells_bool, cells_ptr, cells_sl, cells_map, cells_fn, List.drop_succ_cons, List.drop_zero, List.take_succ_cons, List.take_zero, Nat.zero_add, Nat.reduceAdd, Int.toNat_natCast, Int.toNat_zero]; rfl)) rfl d (by decide) (by decide) fun bn w d => ?_ | refine bsl2 rfl rfl d fun bn w d => ?_ | refine bsl0 d fun bn w d => ?_ | refine qt d ?_ | refine qe_nil ?_ | refine qe_fa ?_ | refine qe_len ?_ | (apply qlm; (focus ((repeat (first | exact .h _ | refine .t _ _ ?_)); done)); (focus rfl)) | (apply qam; (focus ((repeat (first | exact .h _ | refine .t _ _ ?_)); done)); (focus rfl)) | refine qe _ (fun w d => by ((repeat (refine bld_c rfl rfl (by simp) ?_; simp only [List.set_cons_zero, List.set_cons_succ])); refine bld_n ?_); exact ⟨rfl, rfl⟩) ?_ | refine qe_ext rfl ?_ | refine qe_op (fun _ _ => BinI_add) ?_ | refine qe_op (fun _ _ => BinI_sub) ?_ | refine qe_op (fun _ _ => BinI_mul) ?_ | refine qe_op (fun _ _ => BinI_eql) ?_ | refine qe_op (fun _ _ => BinI_neq) ?_ | refine qe_op (fun _ _ => BinI_lss) ?_ | refine qe_op (fun _ _ => BinI_leq) ?_ | refine qe_op (fun _ _ => BinI_gtr) ?_ | refine qe_op (fun _ _ => BinI_geq) ?_ | refine qe_op (fun _ _ => Un_not _) ?_ | refine qia (by first | omega | (simp; omega)) ?_ | refine qia0 (by first | omega | (simp; omega)) ?_ | (focus (apply qln; (focus ((repeat (first | exact .h _ | refine .t _ _ ?_)); done)); (focus exact fun _ => rfl); rotate_left; (focus (first | omega | (simp; done) | (simp; omega))))) | (focus (apply ql1; (focus ((repeat (first | exact .h _ | refine .t _ _ ?_)); done)); (focus exact fun _ => rfl); (focus rfl); rotate_left; (focus (first | omega | (simp; done) | (simp; omega))))) | (focus (apply ql0; (focus ((repeat (first | exact .h _ | refine .t _ _ ?_)); done)); (focus exact fun _ => rfl); (focus rfl); rotate_left; (focus (first | omega | (simp; done) | (simp; omega))))) | (apply swm d; (focus ((repeat (first | exact .h _ | apply Rp.t)); done)); (focus rfl); (focus rfl); (focus exact ones rfl); intro w d; simp only [SPL] at d) | (apply stm d; (focus ((repeat (first | exact .h _ | apply Rp.t)); done)); (focus rfl); (focus simp); (focus exact ones rfl); intro w d; simp only [SPL] at d) | (apply lpm d; (focus ((repeat (first | exact .h _ | refine .t _ _ ?_)); done)); (focus (simp only [SEM]; rfl)); (focus rfl)) | (focus (apply rw_fld d; (focus ((repeat (first | exact .h _ | refine .t _ _ ?_)); done)); (focus exact fun _ => rfl); (focus rfl); rotate_left; (focus (first | omega | (simp; done) | (simp; omega))))) | (focus (apply rw_el1 d; (focus ((repeat (first | exact .h _ | refine .t _ _ ?_)); done)); (focus exact fun _ => rfl); (focus rfl); rotate_left; (focus (first | omega | (simp; done) | (simp; omega))))) | (focus (apply rw_elN d; (focus ((repeat (first | exact .h _ | refine .t _ _ ?_)); done)); (focus exact fun _ => rfl); rotate_left; (focus (first | omega | (simp; done) | (simp; omega))))) | (focus (apply rw_fld0 d; (focus ((repeat (first | exact .h _ | refine .t _ _ ?_)); done)); (focus exact fun _ => rfl); (focus rfl); rotate_left; (focus (first | omega | (simp; done) | (simp; omega))))) | (focus (apply rw_el10 d; (focus ((repeat (first | exact .h _ | refine .t _ _ ?_)); done)); (focus exact fun _ => rfl); (focus rfl); rotate_left; (focus (first | omega | (simp; done) | (simp; omega))))) | (focus (apply rw_elN0 d; (focus ((repeat (first | exact .h _ | refine .t _ _ ?_)); done)); (focus exact fun _ => rfl); rotate_left; (focus (first | omega | (simp; done) | (simp; omega))))) | refine ch d ?_ | refine ch (D.tail d) ?_ | refine ch (D.tail (D.tail d)) ?_ | refine ch (D.tail (D.tail (D.tail d))) ?_ | refine qe _ (fun w d => max2_ok ⟨rfl, rfl⟩) ?_ | refine qe _ (fun w d => min2_ok ⟨rfl, rfl⟩) ?_ | refine max2_ok ?_ | refine min2_ok ?_ | refine bsl3 rfl rfl rfl d fun bn w d => ?_ | refine qe_op (fun _ _ => BinI_quo rfl) ?_ | refine qe_op (fun _ _ => BinI_rem rfl) ?_ | refine qe_op (fun _ _ => BinI_or) ?_ | refine qe_op (fun _ _ => BinI_and) ?_ | refine qe_op (fun _ _ => BinI_andNot) ?_ | refine qe_op (fun _ _ => BinI_shl) ?_ | refine qe_op (fun _ _ => BinI_shr) ?_)
    have hlen : S.length ≤ n := mp_card (Mis.map d) hnd hS
    refine y_ok (args := [.int .i64 kk]) hro (D.sel [2] d) ?_
    simp only [UN, UNe]
    refine d_beg (D.sel [2] d) hr fun w d => ?_
    repeat (first | refine drw d fun w d => ?_ | (simp +decide only [SEM]) | (apply ldm d; (focus ((repeat (first | exact .h _ | refine .t _ _ ?_)); done)); (focus rfl)) | (apply lam d; (focus ((repeat (first | exact .h _ | refine .t _ _ ?_)); done)); (focus rfl)) | (((repeat (refine bld_c rfl rfl (by simp) ?_; simp only [List.set_cons_zero, List.set_cons_succ])); refine bld_n ?_)) | (refine d_new _ d fun bn w d => ?_) | refine bsl1 (by first | rfl | (simp only [cells_agg, cells_int, cells_bool, cells_ptr, cells_sl, cells_map, cells_fn, List.drop_succ_cons, List.drop_zero, List.take_succ_cons, List.take_zero, Nat.zero_add, Nat.reduceAdd, Int.toNat_natCast, Int.toNat_zero]; rfl)) rfl d (by decide) (by decide) fun bn w d => ?_ | refine bsl2 rfl rfl d fun bn w d => ?_ | refine bsl0 d fun bn w d => ?_ | refine qt d ?_ | refine qe_nil ?_ | refine qe_fa ?_ | refine qe_len ?_ | (apply qlm; (focus ((repeat (first | exact .h _ | refine .t _ _ ?_)); done)); (focus rfl)) | (apply qam; (focus ((repeat (first | exact .h _ | refine .t _ _ ?_)); done)); (focus rfl)) | refine qe _ (fun w d => by ((repeat (refine bld_c rfl rfl (by simp) ?_; simp only [List.set_cons_zero, List.set_cons_succ])); refine bld_n ?_); exact ⟨rfl, rfl⟩) ?_ | refine qe_ext rfl ?_ | refine qe_op (fun _ _ => BinI_add) ?_ | refine qe_op (fun _ _ => BinI_sub) ?_ | refine qe_op (fun _ _ => BinI_mul) ?_ | refine qe_op (fun _ _ => BinI_eql) ?_ | refine qe_op (fun _ _ => BinI_neq) ?_ | refine qe_op (fun _ _ => BinI_lss) ?_ | refine qe_op (fun _ _ => BinI_leq) ?_ | refine qe_op (fun _ _ => BinI_gtr) ?_ | refine qe_op (fun _ _ => BinI_geq) ?_ | refine qe_op (fun _ _ => Un_not _) ?_ | refine qia (by first | omega | (simp; omega)) ?_ | refine qia0 (by first | omega | (simp; omega)) ?_ | (focus (apply qln; (focus ((repeat (first | exact .h _ | refine .t _ _ ?_)); done)); (focus exact fun _ => rfl); rotate_left; (focus (first | omega | (simp; done) | (simp; omega))))) | (focus (apply ql1; (focus ((repeat (first | exact .h _ | refine .t _ _ ?_)); done)); (focus exact fun _ => rfl); (focus rfl); rotate_left; (focus (first | omega | (simp; done) | (simp; omega))))) | (focus (apply ql0; (focus ((repeat (first | exact .h _ | refine .t _ _ ?_)); done)); (focus exact fun _ => rfl); (focus rfl); rotate_left; (focus (first | omega | (simp; done) | (simp; omega))))) | (apply swm d; (focus ((repeat (first | exact .h _ | apply Rp.t)); done)); (focus rfl); (focus rfl); (focus exact ones rfl); intro w d; simp only [SPL] at d) | (apply stm d; (focus ((repeat (first | exact .h _ | apply Rp.t)); done)); (focus rfl); (focus simp); (focus exact ones rfl); intro w d; simp only [SPL] at d) | (apply lpm d; (focus ((repeat (first | exact .h _ | refine .t _ _ ?_)); done)); (focus (simp only [SEM]; rfl)); (focus rfl)) | (focus (apply rw_fld d; (focus ((repeat (first | exact .h _ | refine .t _ _ ?_)); done)); (focus exact fun _ => rfl); (focus rfl); rotate_left; (focus (first | omega | (simp; done) | (simp; omega))))) | (focus (apply rw_el1 d; (focus ((repeat (first | exact .h _ | refine .t _ _ ?_)); done)); (focus exact fun _ => rfl); (focus rfl); rotate_left; (focus (first | omega | (simp; done) | (simp; omega))))) | (focus (apply rw_elN d; (focus ((repeat (first | exact .h _ | refine .t _ _ ?_)); done)); (focus exact fun _ => rfl); rotate_left; (focus (first | omega | (simp; done) | (simp; omega))))) | (focus (apply rw_fld0 d; (focus ((repeat (first | exact .h _ | refine .t _ _ ?_)); done)); (focus exact fun _ => rfl); (focus rfl); rotate_left; (focus (first | omega | (simp; done) | (simp; omega))))) | (focus (apply rw_el10 d; (focus ((repeat (first | exact .h _ | refine .t _ _ ?_)); done)); (focus exact fun _ => rfl); (focus rfl); rotate_left; (focus (first | omega | (simp; done) | (simp; omega))))) | (focus (apply rw_elN0 d; (focus ((repeat (first | exact .h _ | refine .t _ _ ?_)); done)); (focus exact fun _ => rfl); rotate_left; (focus (first | omega | (simp; done) | (simp; omega))))) | refine ch d ?_ | refine ch (D.tail d) ?_ | refine ch (D.tail (D.tail d)) ?_ | refine ch (D.tail (D.tail (D.tail d))) ?_ | refine qe _ (fun w d => max2_ok ⟨rfl, rfl⟩) ?_ | refine qe _ (fun w d => min2_ok ⟨rfl, rfl⟩) ?_ | refine max2_ok ?_ | refine min2_ok ?_ | refine bsl3 rfl rfl rfl d fun bn w d => ?_ | refine qe_op (fun _ _ => BinI_quo rfl) ?_ | refine qe_op (fun _ _ => BinI_rem rfl) ?_ | refine qe_op (fun _ _ => BinI_or) ?_ | refine qe_op (fun _ _ => BinI_and) ?_ | refine qe_op (fun _ _ => BinI_andNot) ?_ | refine qe_op (fun _ _ => BinI_shl) ?_ | refine qe_op (fun _ _ => BinI_shr) ?_)
    refine d_app (m := 1) (D.sel [3] d) (src_of (gc1 (D.sel [3] d)) rfl (ones rfl) 1) rfl (by omega) (by omega) (by omega) (ones rfl) fun sv'' w d => ?_
    obtain ⟨q5, c5, rfl, -⟩ := Rw.shape d.1
    repeat (first | refine drw d fun w d => ?_ | (simp +decide only [SEM]) | (apply ldm d; (focus ((repeat (first | exact .h _ | refine .t _ _ ?_)); done)); (focus rfl)) | (apply lam d; (focus ((repeat (first | exact .h _ | refine .t _ _ ?_)); done)); (focus rfl)) | (((repeat (refine bld_c rfl rfl (by simp) ?_; simp only [List.set_cons_zero, List.set_cons_succ])); refine bld_n ?_)) | (refine d_new _ d fun bn w d => ?_) | refine bsl1 (by first | rfl | (simp only [cells_agg, cells_int, cells_bool, cells_ptr, cells_sl, cells_map, cells_fn, List.drop_succ_cons, List.drop_zero, List.take_succ_cons, List.take_zero, Nat.zero_add, Nat.reduceAdd, Int.toNat_natCast, Int.toNat_zero]; rfl)) rfl d (by decide) (by decide) fun bn w d => ?_ | refine bsl2 rfl rfl d fun bn w d => ?_ | refine bsl0 d fun bn w d => ?_ | refine qt d ?_ | refine qe_nil ?_ | refine qe_fa ?_ | refine qe_len ?_ | (apply qlm; (focus ((repeat (first | exact .h _ | refine .t _ _ ?_)); done)); (focus rfl)) | (apply qam; (focus ((repeat (first | exact .h _ | refine .t _ _ ?_)); done)); (focus rfl)) | refine qe _ (fun w d => by ((repeat (refine bld_c rfl rfl (by simp) ?_; simp only [List.set_cons_zero, List.set_cons_succ])); refine bld_n ?_); exact ⟨rfl, rfl⟩) ?_ | refine qe_ext rfl ?_ | refine qe_op (fun _ _ => BinI_add) ?_ | refine qe_op (fun _ _ => BinI_sub) ?_ | refine qe_op (fun _ _ => BinI_mul) ?_ | refine qe_op (fun _ _ => BinI_eql) ?_ | refine qe_op (fun _ _ => BinI_neq) ?_ | refine qe_op (fun _ _ => BinI_lss) ?_ | refine qe_op (fun _ _ => BinI_leq) ?_ | refine qe_op (fun _ _ => BinI_gtr) ?_ | refine qe_op (fun _ _ => BinI_geq) ?_ | refine qe_op (fun _ _ => Un_not _) ?_ | refine qia (by first | omega | (simp; omega)) ?_ | refine qia0 (by first | omega | (simp; omega)) ?_ | (focus (apply qln; (focus ((repeat (first | exact .h _ | refine .t _ _ ?_)); done)); (focus exact fun _ => rfl); rotate_left; (focus (first | omega | (simp; done) | (simp; omega))))) | (focus (apply ql1; (focus ((repeat (first | exact .h _ | refine .t _ _ ?_)); done)); (focus exact fun _ => rfl); (focus rfl); rotate_left; (focus (first | omega | (simp; done) | (simp; omega))))) | (focus (apply ql0; (focus ((repeat (first | exact .h _ | refine .t _ _ ?_)); done)); (focus exact fun _ => rfl); (focus rfl); rotate_left; (focus (first | omega | (simp; done) | (simp; omega))))) | (apply swm d; (focus ((repeat (first | exact .h _ | apply Rp.t)); done)); (focus rfl); (focus rfl); (focus exact ones rfl); intro w d; simp only [SPL] at d) | (apply stm d; (focus ((repeat (first | exact .h _ | apply Rp.t)); done)); (focus rfl); (focus simp); (focus exact ones rfl); intro w d; simp only [SPL] at d) | (apply lpm d; (focus ((repeat (first | exact .h _ | refine .t _ _ ?_)); done)); (focus (simp only [SEM]; rfl)); (focus rfl)) | (focus (apply rw_fld d; (focus ((repeat (first | exact .h _ | refine .t _ _ ?_)); done)); (focus exact fun _ => rfl); (focus rfl); rotate_left; (focus (first | omega | (simp; done) | (simp; omega))))) | (focus (apply rw_el1 d; (focus ((repeat (first | exact .h _ | refine .t _ _ ?_)); done)); (focus exact fun _ => rfl); (focus rfl); rotate_left; (focus (first | omega | (simp; done) | (simp; omega))))) | (focus (apply rw_elN d; (focus ((repeat (first | exact .h _ | refine .t _ _ ?_)); done)); (focus exact fun _ => rfl); rotate_left; (focus (first | omega | (simp; done) | (simp; omega))))) | (focus (apply rw_fld0 d; (focus ((repeat (first | exact .h _ | refine .t _ _ ?_)); done)); (focus exact fun _ => rfl); (focus rfl); rotate_left; (focus (first | omega | (simp; done) | (simp; omega))))) | (focus (apply rw_el10 d; (focus ((repeat (first | exact .h _ | refine .t _ _ ?_)); done)); (focus exact fun _ => rfl); (focus rfl); rotate_left; (focus (first | omega | (simp; done) | (simp; omega))))) | (focus (apply rw_elN0 d; (focus ((repeat (first | exact .h _ | refine .t _ _ ?_)); done)); (focus exact fun _ => rfl); rotate_left; (focus (first | omega | (simp; done) | (simp; omega))))) | refine ch d ?_ | refine ch (D.tail d) ?_ | refine ch (D.tail (D.tail d)) ?_ | refine ch (D.tail (D.tail (D.tail d))) ?_ | refine qe _ (fun w d => max2_ok ⟨rfl, rfl⟩) ?_ | refine qe _ (fun w d => min2_ok ⟨rfl, rfl⟩) ?_ | refine max2_ok ?_ | refine min2_ok ?_ | refine bsl3 rfl rfl rfl d fun bn w d => ?_ | refine qe_op (fun _ _ => BinI_quo rfl) ?_ | refine qe_op (fun _ _ => BinI_rem rfl) ?_ | refine qe_op (fun _ _ => BinI_or) ?_ | refine qe_op (fun _ _ => BinI_and) ?_ | refine qe_op (fun _ _ => BinI_andNot) ?_ | refine qe_op (fun _ _ => BinI_shl) ?_ | refine qe_op (fun _ _ => BinI_shr) ?_)
    refine d_end0 (D.sel [2] d) fun w d => ?_
    rw [loop_eta hr hp] at d
    repeat (first | refine drw d fun w d => ?_ | (simp +decide only [SEM]) | (apply ldm d; (focus ((repeat (first | exact .h _ | refine .t _ _ ?_)); done)); (focus rfl)) | (apply lam d; (focus ((repeat (first | exact .h _ | refine .t _ _ ?_)); done)); (focus rfl)) | (((repeat (refine bld_c rfl rfl (by simp) ?_; simp only [List.set_cons_zero, List.set_cons_succ])); refine bld_n ?_)) | (refine d_new _ d fun bn w d => ?_) | refine bsl1 (by first | rfl | (simp only [cells_agg, cells_int, cells_bool, cells_ptr, cells_sl, cells_map, cells_fn, List.drop_succ_cons, List.drop_zero, List.take_succ_cons, List.take_zero, Nat.zero_add, Nat.reduceAdd, Int.toNat_natCast, Int.toNat_zero]; rfl)) rfl d (by decide) (by decide) fun bn w d => ?_ | refine bsl2 rfl rfl d fun bn w d => ?_ | refine bsl0 d fun bn w d => ?_ | refine qt d ?_ | refine qe_nil ?_ | refine qe_fa ?_ | refine qe_len ?_ | (apply qlm; (focus ((repeat (first | exact .h _ | refine .t _ _ ?_)); done)); (focus rfl)) | (apply qam; (focus ((repeat (first | exact .h _ | refine .t _ _ ?_)); done)); (focus rfl)) | refine qe _ (fun w d => by ((repeat (refine bld_c rfl rfl (by simp) ?_; simp only [List.set_cons_zero, List.set_cons_succ])); refine bld_n ?_); exact ⟨rfl, rfl⟩) ?_ | refine qe_ext rfl ?_ | refine qe_op (fun _ _ => BinI_add) ?_ | refine qe_op (fun _ _ => BinI_sub) ?_ | refine qe_op (fun _ _ => BinI_mul) ?_ | refine qe_op (fun _ _ => BinI_eql) ?_ | refine qe_op (fun _ _ => BinI_neq) ?_ | refine qe_op (fun _ _ => BinI_lss) ?_ | refine qe_op (fun _ _ => BinI_leq) ?_ | refine qe_op (fun _ _ => BinI_gtr) ?_ | refine qe_op (fun _ _ => BinI_geq) ?_ | refine qe_op (fun _ _ => Un_not _) ?_ | refine qia (by first | omega | (simp; omega)) ?_ | refine qia0 (by first | omega | (simp; omega)) ?_ | (focus (apply qln; (focus ((repeat (first | exact .h _ | refine .t _ _ ?_)); done)); (focus exact fun _ => rfl); rotate_left; (focus (first | omega | (simp; done) | (simp; omega))))) | (focus (apply ql1; (focus ((repeat (first | exact .h _ | refine .t _ _ ?_)); done)); (focus exact fun _ => rfl); (focus rfl); rotate_left; (focus (first | omega | (simp; done) | (simp; omega))))) | (focus (apply ql0; (focus ((repeat (first | exact .h _ | refine .t _ _ ?_)); done)); (focus exact fun _ => rfl); (focus rfl); rotate_left; (focus (first | omega | (simp; done) | (simp; omega))))) | (apply swm d; (focus ((repeat (first | exact .h _ | apply Rp.t)); done)); (focus rfl); (focus rfl); (focus exact ones rfl); intro w d; simp only [SPL] at d) | (apply stm d; (focus ((repeat (first | exact .h _ | apply Rp.t)); done)); (focus rfl); (focus simp); (focus exact ones rfl); intro w d; simp only [SPL] at d) | (apply lpm d; (focus ((repeat (first | exact .h _ | refine .t _ _ ?_)); done)); (focus (simp only [SEM]; rfl)); (focus rfl)) | (focus (apply rw_fld d; (focus ((repeat (first | exact .h _ | refine .t _ _ ?_)); done)); (focus exact fun _ => rfl); (focus rfl); rotate_left; (focus (first | omega | (simp; done) | (simp; omega))))) | (focus (apply rw_el1 d; (focus ((repeat (first | exact .h _ | refine .t _ _ ?_)); done)); (focus exact fun _ => rfl); (focus rfl); rotate_left; (focus (first | omega | (simp; done) | (simp; omega))))) | (focus (apply rw_elN d; (focus ((repeat (first | exact .h _ | refine .t _ _ ?_)); done)); (focus exact fun _ => rfl); rotate_left; (focus (first | omega | (simp; done) | (simp; omega))))) | (focus (apply rw_fld0 d; (focus ((repeat (first | exact .h _ | refine .t _ _ ?_)); done)); (focus exact fun _ => rfl); (focus rfl); rotate_left; (focus (first | omega | (simp; done) | (simp; omega))))) | (focus (apply rw_el10 d; (focus ((repeat (first | exact .h _ | refine .t _ _ ?_)); done)); (focus exact fun _ => rfl); (focus rfl); rotate_left; (focus (first | omega | (simp; done) | (simp; omega))))) | (focus (apply rw_elN0 d; (focus ((repeat (first | exact .h _ | refine .t _ _ ?_)); done)); (focus exact fun _ => rfl); rotate_left; (focus (first | omega | (simp; done) | (simp; omega))))) | refine ch d ?_ | refine ch (D.tail d) ?_ | refine ch (D.tail (D.tail d)) ?_ | refine ch (D.tail (D.tail (D.tail d))) ?_ | refine qe _ (fun w d => max2_ok ⟨rfl, rfl⟩) ?_ | refine qe _ (fun w d => min2_ok ⟨rfl, rfl⟩) ?_ | refine max2_ok ?_ | refine min2_ok ?_ | refine bsl3 rfl rfl rfl d fun bn w d => ?_ | refine qe_op (fun _ _ => BinI_quo rfl) ?_ | refine qe_op (fun _ _ => BinI_rem rfl) ?_ | refine qe_op (fun _ _ => BinI_or) ?_ | refine qe_op (fun _ _ => BinI_and) ?_ | refine qe_op (fun _ _ => BinI_andNot) ?_ | refine qe_op (fun _ _ => BinI_shl) ?_ | refine qe_op (fun _ _ => BinI_shr) ?_)
    have hkS : kk ∉ S := fun h => hnq ((hQ kk).2 h)
    have e1 : (S ++ [kk]).length = S.length + 1 := by simp
    have e2 : (S ++ [kk]).flatMap nI = S.flatMap nI ++ [.int .i64 kk] := by rw [List.flatMap_append, List.flatMap_singleton]; rfl
    have d : D w0 (Mis r m g n m' (fun x => x = kk ∨ Q x) (some (kk, v)) :: Rw 3 1 (.slice q5 (S.length + 1) c5) (S ++ [kk]).length ((S ++ [kk]).flatMap nI) :: pts l (.loop r0) :: cel bo 30 [.slice q5 (S.length + 1) c5] :: cel c tc [.map (some m)] :: pts dm (.deferred (some [])) :: L) w := by
      rw [e1, e2]
      exact (D.sel [2, 3, 1, 0] d).tail
    refine ⟨⟨S ++ [kk], _, m', _, _, ?_, ?_, ?_, ?_, d⟩, by rw [Mis.left_eq d]; exact hm'⟩
    · rw [List.nodup_append]
      exact ⟨hnd, by simp, fun a ha b hb e => hkS (by rw [List.mem_singleton.1 hb] at e; rw [← e]; exact ha)⟩
    · intro x
      rw [List.mem_append, List.mem_singleton, hQ x]
      exact Or.comm
    · intro x hx
      rcases List.mem_append.1 hx with h | h
      · exact hS x h
      · rw [List.mem_singleton.1 h, hv]; rfl
    · intro h; simp at h
theorem sorted_ok {c : Nat} (ok : KeysOk kf t) (hn : n ≤ 1000000) (d : D w0 (cel c tc [.map (some m)] :: Mp m g n :: L) w)
    (k : ∀ (S : List Int) sv w', S.Nodup → (∀ x, x ∈ S ↔ (g x).isSome = true) → (S = [] → sv = .slice none 0 0) → D w0 (Rw 3 1 sv (srt S).length ((srt S).flatMap nI) :: Mp m g n :: L) w' → K sv w') :
    Cl pg 85 #[.func (.func kf) #[] #[.pointer (some ⟨c, 0, none⟩)]] K w := by
  refine V.slices_Sorted_int_ok ?_
  unfold V.slices_Sorted_int
  refine fn10 (fun _ _ => rfl) (V.slices_Collect_int_ok ?_)
  unfold V.slices_Collect_int
  refine fn20 (fun _ _ => rfl) (appSeq_ok ok hn d fun S sv w hnd hS hnil d => ?_)
  have hlen : S.length ≤ n := mp_card d.swap hnd fun x hx => (hS x).1 hx
  refine fn10 (fun _ _ => rfl) (isort_k (K := fun _ w => K sv w) iLay (by omega) d fun w d => ?_)
  exact k S sv w hnd hS hnil d
end
/-- The intrinsic: slices.Sorted of a map's keys. -/
theorem sortedX_ok {AT : Nat → Nat → Value} {w0 : World} {F : List HP} {KL : List (Nat × Nat)} (hKL : ∀ p ∈ KL, KeysOk p.1 p.2) (args : List X) (S : XS) (x : X) (S' : XS) (h : sortedX KL 3 args S = .ok (x, S')) (σ : Sg) (vs : List Value) (w : World) (K : Value → WP)
    (hd : DL AT σ args vs) (r : Rep AT pg w0 F σ S w) (k : ∀ σ' v w', σ.le σ' → Rep AT pg w0 F σ' S' w' → den AT σ' x = some v → K v w') : Cl pg 85 vs.toArray K w := by
  unfold sortedX at h
  split at h
  · rename_i kf c
    replace h := need_ok h
    obtain ⟨hk, h⟩ := h
    obtain ⟨t, hkt⟩ := hasK_mem hk
    have ok : KeysOk kf t := hKL _ hkt
    split at h
    · rename_i tc m hf
      rw [XS.delK_eq] at h
      split at h
      · rename_i es hfm
        replace h := need_ok h
        obtain ⟨hlen, h⟩ := h
        have hlen := ble_le hlen
        obtain ⟨fv, rfl, hfv⟩ : ∃ fv, vs = [fv] ∧ den AT σ (.fn (.func kf) [] [.ptr c 0]) = some fv := by
          cases vs with
          | nil => cases hd
          | cons v l => cases l with
            | nil => exact ⟨v, rfl, (List.cons.inj hd).1⟩
            | cons _ _ => exact absurd (congrArg List.length hd) (by simp)
        obtain ⟨fs, us, a1, a2, rfl⟩ := den_fn.1 hfv
        cases fs with
        | cons _ _ => cases a1
        | nil =>
          obtain ⟨u, rfl, hu⟩ : ∃ u, us = [u] ∧ den AT σ (.ptr c 0) = some u := by
            cases us with
            | nil => cases a2
            | cons v l => cases l with
              | nil => exact ⟨v, rfl, (List.cons.inj a2).1⟩
              | cons _ _ => exact absurd (congrArg List.length a2) (by simp)
          obtain ⟨g, hg, rfl⟩ := den_ptr.1 hu
          have r1 := r.drop hf
          obtain ⟨L, d, _, hL⟩ := r.d.takeB hf
          obtain ⟨L2, d2, hput, hL2⟩ := r1.d.takeB hfm
          obtain ⟨⟨h1, h2, s, ⟨g', cv, pre, junk, e1, e2, e3, e4, e5⟩, l⟩, kp⟩ := d
          rw [hg] at e1; cases e1
          obtain ⟨rfl, rfl⟩ := e5
          have hb0 : g.base = 0 := by rw [← e4]; rfl
          obtain ⟨mv, rfl, hmv⟩ : ∃ mv, cv = [mv] ∧ den AT σ (.mp m) = some mv := by
            cases cv with
            | nil => cases e2
            | cons v l => cases l with
              | nil => exact ⟨v, rfl, (List.cons.inj e2).1⟩
              | cons _ _ => exact absurd (congrArg List.length e2) (by simp)
          obtain ⟨gm', hgm, rfl⟩ := den_mp.1 hmv
          have hfm' : findB (S.del c).bs m = some (.mp es) := hfm
          obtain ⟨A, B, hsp, _, hdel⟩ := find_split hfm'
          have dd : D w0 (cel g.ad tc [.map (some gm'.ad)] :: Mp gm'.ad (gm AT σ es) es.length :: L2) w := by
            have : D w0 (cel g.ad tc [.map (some gm'.ad)] :: L) w := ⟨⟨h1, h2, s, (show h1 g.ad = some (.cells #[Value.map (some gm'.ad)] tc (0, 0)) by simpa using e3), l⟩, kp⟩
            rw [hL] at this
            have e : (delB S.bs c).map (partB AT pg σ) = A.map (partB AT pg σ) ++ partB AT pg σ (m, .mp es) :: B.map (partB AT pg σ) := by
              rw [show delB S.bs c = (S.del c).bs from rfl, hsp, List.map_append, List.map_cons]
            rw [e, List.append_assoc, List.cons_append] at this
            have := this.perm (List.perm_middle.cons _)
            rw [hL2, hdel, List.map_append, List.append_assoc]
            refine ⟨this.1.under fun hh ss => ss.hd fun hh' hp => ?_, this.2⟩
            obtain ⟨q, q1, _, _, q2⟩ := hp
            rw [hgm] at q1; cases q1
            exact q2
          have hes : (∀ p ∈ es, ∃ v, den AT σ p.2 = some v) ∧ (es.map (·.1)).Nodup := by
            obtain ⟨q, _, q1, q2, _⟩ := r1.d.atB hfm'
            exact ⟨q1, q2⟩
          rw [hb0]
          refine sorted_ok ok hlen dd fun T sv w' hnd hT hnil d' => ?_
          have hkeys : srt T = isrt (es.map (·.1)) := srt_isrt hnd hes.2 fun x => by
            rw [hT x, gm_some hes.1]
            constructor
            · intro hx
              obtain ⟨y, hy⟩ := Option.isSome_iff_exists.1 hx
              exact List.mem_map.2 ⟨_, lkM_mem hy, rfl⟩
            · intro hx
              obtain ⟨p, hp, rfl⟩ := List.mem_map.1 hx
              rw [lkM_of_mem hes.2 hp]; rfl
          have back : ∀ (A1 : HP), D w0 (A1 :: Mp gm'.ad (gm AT σ es) es.length :: L2) w' → D w0 (A1 :: ((S.del c).bs.map (partB AT pg σ) ++ F)) w' := by
            intro A1 dx
            rw [hsp, List.map_append, List.map_cons, List.append_assoc, List.cons_append]
            rw [hL2, hdel, List.map_append, List.append_assoc] at dx
            have dy : D w0 (A1 :: partB AT pg σ (m, .mp es) :: (A.map (partB AT pg σ) ++ (B.map (partB AT pg σ) ++ F))) w' :=
              ⟨dx.1.under fun hh ss => ss.hd fun hh' hp => ⟨gm', hgm, hes.1, hes.2, hp⟩, dx.2⟩
            exact dy.perm (List.perm_middle.symm.cons _)
          split at h
          · cases h
            have hT0 : T = [] := by
              have : srt T = [] := by rw [hkeys]; rfl
              have := srt_len T
              rw [‹srt T = []›] at this
              exact List.length_eq_zero_iff.1 this.symm
            rw [hnil hT0]
            exact k σ _ w' (Sg.le.refl σ) ⟨(back _ d').tail, r1.fresh⟩ (den_lit.2 rfl)
          · rename_i hne
            rw [XS.addK_eq] at h
            cases h
            have hTl : (srt T).length = es.length := by rw [hkeys, (isrt_perm _).length_eq, List.length_map]
            have hpos : 0 < (srt T).length := by
              rw [hTl]
              cases es with
              | nil => exact absurd rfl hne
              | cons _ _ => simp
            obtain ⟨bb, cap, junk, hsv, hle, hl2, s3⟩ := Rw.block d'.1 hpos
            have d3 : D w0 (cel bb 3 ((srt T).flatMap nI ++ junk) :: Mp gm'.ad (gm AT σ es) es.length :: L2) w' := ⟨s3, d'.2⟩
            have d4 := back _ d3
            refine k (σ.add S.nx ⟨bb, 0, cap, none⟩) _ w' r.le (r1.grow (S := S.del c) (g := ⟨bb, 0, cap, none⟩) ?_) ?_
            · obtain ⟨⟨k1, k2, s', a, l'⟩, kp'⟩ := d4
              refine ⟨⟨k1, k2, s', ⟨_, (srt T).flatMap nI, [], junk, Sg.add_at _ _ _, ?_, a, rfl, by rw [hl2]⟩, l'⟩, kp'⟩
              rw [hkeys, nI_map]
              show List.map _ (List.map _ _) = List.map _ (List.map _ _)
              rw [List.map_map, List.map_map]
              rfl
            · rw [hsv, ← hTl]
              exact den_so.2 ⟨_, Sg.add_at _ _ _, by simpa using hle, by simp⟩
      · cases h
    · cases h
  · cases h
end Go.Proofs.YtcdkbkgpgemfgaaGreatDoor
