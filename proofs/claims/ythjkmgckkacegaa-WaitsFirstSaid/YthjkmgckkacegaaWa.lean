/- Waits: who is blocked; looking for one. -/
import Derived.Test.YthjkmgckkacegaaSl
import Derived.Test.YthjkmgckkacegaaV
set_option maxRecDepth 100000
namespace Go.Proofs.Ythjkmgckkacegaa
open Go Go.Jac
structure It where
  o : Int
  m : Int
structure Wt where
  th : Int
  dl : Int
  sv : Value
  it : List It
def ic (y : It) : List Value := [.int .i64 y.o, .int .i64 y.m]
def wc (x : Wt) : List Value := [.int .i64 x.th, .int .i64 x.dl, x.sv]
theorem ic_len (y : It) : (ic y).length = 2 := rfl
theorem wc_len (x : Wt) : (wc x).length = 3 := rfl
def Its (S : List Wt) : HP := sat (S.map fun x => Rw 42 2 x.sv x.it.length (x.it.flatMap ic))
def Ws (b : Nat) (most : Int) (S : List Wt) : HP := ex fun sv => sat [cel b 75 [sv, .int .i64 most], Rw 80 3 sv S.length (S.flatMap wc), Its S]
section
variable {w0 w : World} {L : List HP} {K : Value → WP} {b : Nat} {most : Int} {S : List Wt} {sv : Value}
theorem Ws.out (d : D w0 (Ws b most S :: L) w) : ∃ sv, D w0 (cel b 75 [sv, .int .i64 most] :: Rw 80 3 sv S.length (S.flatMap wc) :: Its S :: L) w := by
  obtain ⟨sv, d⟩ := d.ex
  exact ⟨sv, d.opens⟩
theorem Ws.mk (d : D w0 (cel b 75 [sv, .int .i64 most] :: Rw 80 3 sv S.length (S.flatMap wc) :: Its S :: L) w) : D w0 (Ws b most S :: L) w :=
  D.mk_ex (A := fun sv => sat [cel b 75 [sv, .int .i64 most], Rw 80 3 sv S.length (S.flatMap wc), Its S]) sv (D.close (M := [_, _, _]) d)
theorem New_ok {n : Int} (hn : 0 ≤ n ∧ n ≤ 65536) (d : D w0 L w) (k : ∀ b w', D w0 (Ws b n [] :: L) w' → K (.pointer (some ⟨b, 0, none⟩)) w') : Cl pg 8 #[.int .i64 n] K w := by
  refine V.waits_New_ok ?_
  unfold V.waits_New
  repeat (first | (simp +decide only [SEM]) | (apply ldm d; (focus ((repeat (first | exact .h _ | refine .t _ _ ?_)); done)); (focus rfl)) | (apply lam d; (focus ((repeat (first | exact .h _ | refine .t _ _ ?_)); done)); (focus rfl)) | (((repeat (refine bld_c rfl rfl (by simp) ?_; simp only [List.set_cons_zero, List.set_cons_succ])); refine bld_n ?_)) | (refine d_new _ d fun bn w d => ?_) | ((first | refine bsl1 (by first | rfl | (simp only [cells_agg, cells_int, cells_bool, cells_ptr, cells_sl, cells_map, cells_fn, List.drop_succ_cons, List.drop_zero, List.take_succ_cons, List.take_zero, Nat.zero_add, Nat.reduceAdd, Int.toNat_natCast, Int.toNat_zero]; rfl)) rfl d (by decide) (by decide) fun bn w d => ?_ | refine bsl2 rfl rfl d fun bn w d => ?_ | refine bsl0 d fun bn w d => ?_)) | (first | refine drw d fun w d => ?_ | refine qt d ?_ | refine qe_nil ?_ | refine qe_fa ?_ | refine qe_len ?_ | (apply qlm; (focus ((repeat (first | exact .h _ | refine .t _ _ ?_)); done)); (focus rfl)) | (apply qam; (focus ((repeat (first | exact .h _ | refine .t _ _ ?_)); done)); (focus rfl)) | refine qe _ (fun w d => by ((repeat (refine bld_c rfl rfl (by simp) ?_; simp only [List.set_cons_zero, List.set_cons_succ])); refine bld_n ?_); exact ⟨rfl, rfl⟩) ?_ | refine qe_ext rfl ?_) | (apply swm d; (focus ((repeat (first | exact .h _ | apply Rp.t)); done)); (focus rfl); (focus rfl); (focus exact ones rfl); intro w d; simp only [SPL] at d) | (apply stm d; (focus ((repeat (first | exact .h _ | apply Rp.t)); done)); (focus rfl); (focus simp); (focus exact ones rfl); intro w d; simp only [SPL] at d) | (apply lpm d; (focus ((repeat (first | exact .h _ | refine .t _ _ ?_)); done)); (focus (simp only [SEM]; rfl)); (focus rfl)))
  refine ⟨fun h => ⟨fun h2 => by omega, fun h2 => ?_⟩, fun h => by omega⟩
  repeat (first | (simp +decide only [SEM]) | (apply ldm d; (focus ((repeat (first | exact .h _ | refine .t _ _ ?_)); done)); (focus rfl)) | (apply lam d; (focus ((repeat (first | exact .h _ | refine .t _ _ ?_)); done)); (focus rfl)) | (((repeat (refine bld_c rfl rfl (by simp) ?_; simp only [List.set_cons_zero, List.set_cons_succ])); refine bld_n ?_)) | (refine d_new _ d fun bn w d => ?_) | ((first | refine bsl1 (by first | rfl | (simp only [cells_agg, cells_int, cells_bool, cells_ptr, cells_sl, cells_map, cells_fn, List.drop_succ_cons, List.drop_zero, List.take_succ_cons, List.take_zero, Nat.zero_add, Nat.reduceAdd, Int.toNat_natCast, Int.toNat_zero]; rfl)) rfl d (by decide) (by decide) fun bn w d => ?_ | refine bsl2 rfl rfl d fun bn w d => ?_ | refine bsl0 d fun bn w d => ?_)) | (first | refine drw d fun w d => ?_ | refine qt d ?_ | refine qe_nil ?_ | refine qe_fa ?_ | refine qe_len ?_ | (apply qlm; (focus ((repeat (first | exact .h _ | refine .t _ _ ?_)); done)); (focus rfl)) | (apply qam; (focus ((repeat (first | exact .h _ | refine .t _ _ ?_)); done)); (focus rfl)) | refine qe _ (fun w d => by ((repeat (refine bld_c rfl rfl (by simp) ?_; simp only [List.set_cons_zero, List.set_cons_succ])); refine bld_n ?_); exact ⟨rfl, rfl⟩) ?_ | refine qe_ext rfl ?_) | (apply swm d; (focus ((repeat (first | exact .h _ | apply Rp.t)); done)); (focus rfl); (focus rfl); (focus exact ones rfl); intro w d; simp only [SPL] at d) | (apply stm d; (focus ((repeat (first | exact .h _ | apply Rp.t)); done)); (focus rfl); (focus simp); (focus exact ones rfl); intro w d; simp only [SPL] at d) | (apply lpm d; (focus ((repeat (first | exact .h _ | refine .t _ _ ?_)); done)); (focus (simp only [SEM]; rfl)); (focus rfl)))
  have d1 : D w0 (Its [] :: cel bn 75 [.slice none 0 0, .int .i64 n] :: L) w := D.close (M := []) d
  have d2 : D w0 (Rw 80 3 (.slice none 0 0) 0 [] :: Its [] :: cel bn 75 [.slice none 0 0, .int .i64 n] :: L) w := ⟨Rw.nil _ _ d1.1, d1.2⟩
  exact k _ _ (Ws.mk (sv := .slice none 0 0) (D.sel [2, 0, 1] d2))
/-- Where a thread stands; -1: it does not wait. -/
def wix (th : Int) (S : List Wt) : Int := fidx (fun x => decide (x.th = th)) S
theorem find_ok {th : Int} (hS : S.length ≤ 65536) (d : D w0 (Ws b most S :: L) w) (k : ∀ w', D w0 (Ws b most S :: L) w' → K (.int .i64 (wix th S)) w') : Cl pg 28 #[.pointer (some ⟨b, 0, none⟩), .int .i64 th] K w := by
  refine V.waits_Waits_find_ok ?_
  unfold V.waits_Waits_find
  obtain ⟨sv, d⟩ := Ws.out d
  repeat (first | (simp +decide only [SEM]) | (apply ldm d; (focus ((repeat (first | exact .h _ | refine .t _ _ ?_)); done)); (focus rfl)) | (apply lam d; (focus ((repeat (first | exact .h _ | refine .t _ _ ?_)); done)); (focus rfl)) | (((repeat (refine bld_c rfl rfl (by simp) ?_; simp only [List.set_cons_zero, List.set_cons_succ])); refine bld_n ?_)) | (refine d_new _ d fun bn w d => ?_) | ((first | refine bsl1 (by first | rfl | (simp only [cells_agg, cells_int, cells_bool, cells_ptr, cells_sl, cells_map, cells_fn, List.drop_succ_cons, List.drop_zero, List.take_succ_cons, List.take_zero, Nat.zero_add, Nat.reduceAdd, Int.toNat_natCast, Int.toNat_zero]; rfl)) rfl d (by decide) (by decide) fun bn w d => ?_ | refine bsl2 rfl rfl d fun bn w d => ?_ | refine bsl0 d fun bn w d => ?_)) | (first | refine drw d fun w d => ?_ | refine qt d ?_ | refine qe_nil ?_ | refine qe_fa ?_ | refine qe_len ?_ | (apply qlm; (focus ((repeat (first | exact .h _ | refine .t _ _ ?_)); done)); (focus rfl)) | (apply qam; (focus ((repeat (first | exact .h _ | refine .t _ _ ?_)); done)); (focus rfl)) | refine qe _ (fun w d => by ((repeat (refine bld_c rfl rfl (by simp) ?_; simp only [List.set_cons_zero, List.set_cons_succ])); refine bld_n ?_); exact ⟨rfl, rfl⟩) ?_ | refine qe_ext rfl ?_) | (apply swm d; (focus ((repeat (first | exact .h _ | apply Rp.t)); done)); (focus rfl); (focus rfl); (focus exact ones rfl); intro w d; simp only [SPL] at d) | (apply stm d; (focus ((repeat (first | exact .h _ | apply Rp.t)); done)); (focus rfl); (focus simp); (focus exact ones rfl); intro w d; simp only [SPL] at d) | (apply lpm d; (focus ((repeat (first | exact .h _ | refine .t _ _ ?_)); done)); (focus (simp only [SEM]; rfl)); (focus rfl)))
  refine fn20 (fun _ _ => rfl) (V.slices_IndexFunc_wait_wait_ok ?_)
  refine gidxf_ok (LD := LdN 3) (enc := fun x => .agg (wc x).toArray) (p := fun x => decide (x.th = th)) wc_len (by omega) (fun b o x t cs w K g hc k => hldN b o x t cs w K wc_len g hc k) (D.pick 2 d) (fun x w K hx d k => ?_) fun w d => ?_
  · refine fn11 (fun _ _ => rfl) (V.waits_Waits_find_c1_ok ?_)
    unfold V.waits_Waits_find_c1
    repeat (first | (simp +decide only [SEM]) | (apply ldm d; (focus ((repeat (first | exact .h _ | refine .t _ _ ?_)); done)); (focus rfl)) | (apply lam d; (focus ((repeat (first | exact .h _ | refine .t _ _ ?_)); done)); (focus rfl)) | (((repeat (refine bld_c rfl rfl (by simp) ?_; simp only [List.set_cons_zero, List.set_cons_succ])); refine bld_n ?_)) | (refine d_new _ d fun bn w d => ?_) | ((first | refine bsl1 (by first | rfl | (simp only [cells_agg, cells_int, cells_bool, cells_ptr, cells_sl, cells_map, cells_fn, List.drop_succ_cons, List.drop_zero, List.take_succ_cons, List.take_zero, Nat.zero_add, Nat.reduceAdd, Int.toNat_natCast, Int.toNat_zero]; rfl)) rfl d (by decide) (by decide) fun bn w d => ?_ | refine bsl2 rfl rfl d fun bn w d => ?_ | refine bsl0 d fun bn w d => ?_)) | (first | refine drw d fun w d => ?_ | refine qt d ?_ | refine qe_nil ?_ | refine qe_fa ?_ | refine qe_len ?_ | (apply qlm; (focus ((repeat (first | exact .h _ | refine .t _ _ ?_)); done)); (focus rfl)) | (apply qam; (focus ((repeat (first | exact .h _ | refine .t _ _ ?_)); done)); (focus rfl)) | refine qe _ (fun w d => by ((repeat (refine bld_c rfl rfl (by simp) ?_; simp only [List.set_cons_zero, List.set_cons_succ])); refine bld_n ?_); exact ⟨rfl, rfl⟩) ?_ | refine qe_ext rfl ?_) | (apply swm d; (focus ((repeat (first | exact .h _ | apply Rp.t)); done)); (focus rfl); (focus rfl); (focus exact ones rfl); intro w d; simp only [SPL] at d) | (apply stm d; (focus ((repeat (first | exact .h _ | apply Rp.t)); done)); (focus rfl); (focus simp); (focus exact ones rfl); intro w d; simp only [SPL] at d) | (apply lpm d; (focus ((repeat (first | exact .h _ | refine .t _ _ ?_)); done)); (focus (simp only [SEM]; rfl)); (focus rfl)))
    exact k _ d.tail
  · exact k _ (Ws.mk (D.sel [1, 0, 2] d.swap.tail))
theorem Blocked_ok {th : Int} (hS : S.length ≤ 65536) (d : D w0 (Ws b most S :: L) w) (k : ∀ w', D w0 (Ws b most S :: L) w' → K (.bool (decide (0 ≤ wix th S))) w') : Cl pg 14 #[.pointer (some ⟨b, 0, none⟩), .int .i64 th] K w := by
  refine V.waits_Waits_Blocked_ok ?_
  unfold V.waits_Waits_Blocked
  refine fn20 (fun _ _ => rfl) (find_ok hS d fun w d => ?_)
  repeat (first | (simp +decide only [SEM]) | (apply ldm d; (focus ((repeat (first | exact .h _ | refine .t _ _ ?_)); done)); (focus rfl)) | (apply lam d; (focus ((repeat (first | exact .h _ | refine .t _ _ ?_)); done)); (focus rfl)) | (((repeat (refine bld_c rfl rfl (by simp) ?_; simp only [List.set_cons_zero, List.set_cons_succ])); refine bld_n ?_)) | (refine d_new _ d fun bn w d => ?_) | ((first | refine bsl1 (by first | rfl | (simp only [cells_agg, cells_int, cells_bool, cells_ptr, cells_sl, cells_map, cells_fn, List.drop_succ_cons, List.drop_zero, List.take_succ_cons, List.take_zero, Nat.zero_add, Nat.reduceAdd, Int.toNat_natCast, Int.toNat_zero]; rfl)) rfl d (by decide) (by decide) fun bn w d => ?_ | refine bsl2 rfl rfl d fun bn w d => ?_ | refine bsl0 d fun bn w d => ?_)) | (first | refine drw d fun w d => ?_ | refine qt d ?_ | refine qe_nil ?_ | refine qe_fa ?_ | refine qe_len ?_ | (apply qlm; (focus ((repeat (first | exact .h _ | refine .t _ _ ?_)); done)); (focus rfl)) | (apply qam; (focus ((repeat (first | exact .h _ | refine .t _ _ ?_)); done)); (focus rfl)) | refine qe _ (fun w d => by ((repeat (refine bld_c rfl rfl (by simp) ?_; simp only [List.set_cons_zero, List.set_cons_succ])); refine bld_n ?_); exact ⟨rfl, rfl⟩) ?_ | refine qe_ext rfl ?_) | (apply swm d; (focus ((repeat (first | exact .h _ | apply Rp.t)); done)); (focus rfl); (focus rfl); (focus exact ones rfl); intro w d; simp only [SPL] at d) | (apply stm d; (focus ((repeat (first | exact .h _ | apply Rp.t)); done)); (focus rfl); (focus simp); (focus exact ones rfl); intro w d; simp only [SPL] at d) | (apply lpm d; (focus ((repeat (first | exact .h _ | refine .t _ _ ?_)); done)); (focus (simp only [SEM]; rfl)); (focus rfl)))
  exact k _ d
theorem Count_ok (d : D w0 (Ws b most S :: L) w) (k : ∀ w', D w0 (Ws b most S :: L) w' → K (.int .i64 S.length) w') : Cl pg 12 #[.pointer (some ⟨b, 0, none⟩)] K w := by
  refine V.waits_Waits_Count_ok ?_
  unfold V.waits_Waits_Count
  obtain ⟨sv, d⟩ := Ws.out d
  obtain ⟨q, c, rfl, -⟩ := Rw.shape d.swap.1
  repeat (first | (simp +decide only [SEM]) | (apply ldm d; (focus ((repeat (first | exact .h _ | refine .t _ _ ?_)); done)); (focus rfl)) | (apply lam d; (focus ((repeat (first | exact .h _ | refine .t _ _ ?_)); done)); (focus rfl)) | (((repeat (refine bld_c rfl rfl (by simp) ?_; simp only [List.set_cons_zero, List.set_cons_succ])); refine bld_n ?_)) | (refine d_new _ d fun bn w d => ?_) | ((first | refine bsl1 (by first | rfl | (simp only [cells_agg, cells_int, cells_bool, cells_ptr, cells_sl, cells_map, cells_fn, List.drop_succ_cons, List.drop_zero, List.take_succ_cons, List.take_zero, Nat.zero_add, Nat.reduceAdd, Int.toNat_natCast, Int.toNat_zero]; rfl)) rfl d (by decide) (by decide) fun bn w d => ?_ | refine bsl2 rfl rfl d fun bn w d => ?_ | refine bsl0 d fun bn w d => ?_)) | (first | refine drw d fun w d => ?_ | refine qt d ?_ | refine qe_nil ?_ | refine qe_fa ?_ | refine qe_len ?_ | (apply qlm; (focus ((repeat (first | exact .h _ | refine .t _ _ ?_)); done)); (focus rfl)) | (apply qam; (focus ((repeat (first | exact .h _ | refine .t _ _ ?_)); done)); (focus rfl)) | refine qe _ (fun w d => by ((repeat (refine bld_c rfl rfl (by simp) ?_; simp only [List.set_cons_zero, List.set_cons_succ])); refine bld_n ?_); exact ⟨rfl, rfl⟩) ?_ | refine qe_ext rfl ?_) | (apply swm d; (focus ((repeat (first | exact .h _ | apply Rp.t)); done)); (focus rfl); (focus rfl); (focus exact ones rfl); intro w d; simp only [SPL] at d) | (apply stm d; (focus ((repeat (first | exact .h _ | apply Rp.t)); done)); (focus rfl); (focus simp); (focus exact ones rfl); intro w d; simp only [SPL] at d) | (apply lpm d; (focus ((repeat (first | exact .h _ | refine .t _ _ ?_)); done)); (focus (simp only [SEM]; rfl)); (focus rfl)))
  exact k _ (Ws.mk d)
theorem wix_le (th : Int) (S : List Wt) : -1 ≤ wix th S ∧ wix th S < S.length := by
  unfold wix fidx
  split <;> omega
/-- The slices of items are slices. -/
theorem its_sl {S : List Wt} : ∀ {L : List HP} {h : Hp}, Sat (Its S :: L) h → ∀ x ∈ S, ∃ q c, x.sv = .slice q x.it.length c := by
  induction S with
  | nil => intro L h _ x hx; simp at hx
  | cons y r ih =>
    intro L h s x hx
    have s' : Sat (Rw 42 2 y.sv y.it.length (y.it.flatMap ic) :: (r.map fun x => Rw 42 2 x.sv x.it.length (x.it.flatMap ic)) ++ L) h := s.opens
    rcases List.mem_cons.1 hx with rfl | hx
    · obtain ⟨q, c, e, _⟩ := Rw.shape s'
      exact ⟨q, c, e⟩
    · exact ih (L := L) (Sat.close s'.tail) x hx
theorem wc_one {x : Wt} (h : ∃ q c, x.sv = .slice q x.it.length c) : ∀ u ∈ wc x, u.oneCell' = true := by
  obtain ⟨q, c, e⟩ := h
  unfold wc
  rw [e]
  exact ones rfl
theorem wcs_one {S : List Wt} (h : ∀ x ∈ S, ∃ q c, x.sv = .slice q x.it.length c) : ∀ u ∈ S.flatMap wc, u.oneCell' = true := by
  intro u hu
  obtain ⟨x, hx, hu⟩ := List.mem_flatMap.1 hu
  exact wc_one (h x hx) u hu
/-- The i-th row of items. -/
theorem Its.at_ {i : Nat} (hi : i < S.length) (d : D w0 (Its S :: L) w) : ∃ R, D w0 (Rw 42 2 S[i].sv S[i].it.length (S[i].it.flatMap ic) :: R :: L) w ∧ ∀ {M : List HP} {w' : World}, D w0 (Rw 42 2 S[i].sv S[i].it.length (S[i].it.flatMap ic) :: R :: M) w' → D w0 (Its S :: M) w' := by
  refine ⟨sat ((S.take i ++ S.drop (i + 1)).map fun x => Rw 42 2 x.sv x.it.length (x.it.flatMap ic)), ?_, ?_⟩
  · have key : ∀ {S : List Wt} {i : Nat} (hi : i < S.length) {L : List HP} {h : Hp}, Sat ((S.map fun x => Rw 42 2 x.sv x.it.length (x.it.flatMap ic)) ++ L) h → Sat (Rw 42 2 S[i].sv S[i].it.length (S[i].it.flatMap ic) :: ((S.take i ++ S.drop (i + 1)).map fun x => Rw 42 2 x.sv x.it.length (x.it.flatMap ic)) ++ L) h := by
      intro S
      induction S with
      | nil => intro i hi; simp at hi
      | cons y r ih =>
        intro i hi L h s
        cases i with
        | zero => exact s
        | succ i =>
          have hi' : i < r.length := by simpa using hi
          have := Sat.under (A := Rw 42 2 y.sv y.it.length (y.it.flatMap ic)) s fun h s => ih hi' s
          exact Sat.swap this
    have d' := D.opens d
    exact D.under' (fun h s => Sat.close s) ⟨key hi d'.1, d'.2⟩
  · intro M w' d'
    have key : ∀ {S : List Wt} {i : Nat} (hi : i < S.length) {L : List HP} {h : Hp}, Sat (Rw 42 2 S[i].sv S[i].it.length (S[i].it.flatMap ic) :: ((S.take i ++ S.drop (i + 1)).map fun x => Rw 42 2 x.sv x.it.length (x.it.flatMap ic)) ++ L) h → Sat ((S.map fun x => Rw 42 2 x.sv x.it.length (x.it.flatMap ic)) ++ L) h := by
      intro S
      induction S with
      | nil => intro i hi; simp at hi
      | cons y r ih =>
        intro i hi L h s
        cases i with
        | zero => exact s
        | succ i =>
          have hi' : i < r.length := by simpa using hi
          exact (Sat.swap s).under fun h s => ih hi' s
    exact D.close ⟨key hi (d'.1.under fun h s => s.opens), d'.2⟩
theorem Deadline_ok {th : Int} (hS : S.length ≤ 65536) (d : D w0 (Ws b most S :: L) w)
    (k1 : wix th S = -1 → ∀ w', D w0 (Ws b most S :: L) w' → K (.tuple #[.int .i64 0, .bool false]) w')
    (k2 : ∀ (i : Nat) (hi : i < S.length), wix th S = i → ∀ w', D w0 (Ws b most S :: L) w' → K (.tuple #[.int .i64 S[i].dl, .bool true]) w') : Cl pg 17 #[.pointer (some ⟨b, 0, none⟩), .int .i64 th] K w := by
  refine V.waits_Waits_Deadline_ok ?_
  unfold V.waits_Waits_Deadline
  have hx := wix_le th S
  refine fn20 (fun _ _ => rfl) (find_ok hS d fun w d => ?_)
  repeat (first | (simp +decide only [SEM]) | (apply ldm d; (focus ((repeat (first | exact .h _ | refine .t _ _ ?_)); done)); (focus rfl)) | (apply lam d; (focus ((repeat (first | exact .h _ | refine .t _ _ ?_)); done)); (focus rfl)) | (((repeat (refine bld_c rfl rfl (by simp) ?_; simp only [List.set_cons_zero, List.set_cons_succ])); refine bld_n ?_)) | (refine d_new _ d fun bn w d => ?_) | ((first | refine bsl1 (by first | rfl | (simp only [cells_agg, cells_int, cells_bool, cells_ptr, cells_sl, cells_map, cells_fn, List.drop_succ_cons, List.drop_zero, List.take_succ_cons, List.take_zero, Nat.zero_add, Nat.reduceAdd, Int.toNat_natCast, Int.toNat_zero]; rfl)) rfl d (by decide) (by decide) fun bn w d => ?_ | refine bsl2 rfl rfl d fun bn w d => ?_ | refine bsl0 d fun bn w d => ?_)) | (first | refine drw d fun w d => ?_ | refine qt d ?_ | refine qe_nil ?_ | refine qe_fa ?_ | refine qe_len ?_ | (apply qlm; (focus ((repeat (first | exact .h _ | refine .t _ _ ?_)); done)); (focus rfl)) | (apply qam; (focus ((repeat (first | exact .h _ | refine .t _ _ ?_)); done)); (focus rfl)) | refine qe _ (fun w d => by ((repeat (refine bld_c rfl rfl (by simp) ?_; simp only [List.set_cons_zero, List.set_cons_succ])); refine bld_n ?_); exact ⟨rfl, rfl⟩) ?_ | refine qe_ext rfl ?_) | (apply swm d; (focus ((repeat (first | exact .h _ | apply Rp.t)); done)); (focus rfl); (focus rfl); (focus exact ones rfl); intro w d; simp only [SPL] at d) | (apply stm d; (focus ((repeat (first | exact .h _ | apply Rp.t)); done)); (focus rfl); (focus simp); (focus exact ones rfl); intro w d; simp only [SPL] at d) | (apply lpm d; (focus ((repeat (first | exact .h _ | refine .t _ _ ?_)); done)); (focus (simp only [SEM]; rfl)); (focus rfl)))
  refine ⟨fun h => k1 (by omega) _ d, fun h => ?_⟩
  obtain ⟨i, hi⟩ : ∃ i : Nat, wix th S = i := ⟨(wix th S).toNat, by omega⟩
  rw [hi] at hx ⊢
  obtain ⟨sv, d⟩ := Ws.out d
  repeat (first | (simp +decide only [SEM]) | (apply ldm d; (focus ((repeat (first | exact .h _ | refine .t _ _ ?_)); done)); (focus rfl)) | (apply lam d; (focus ((repeat (first | exact .h _ | refine .t _ _ ?_)); done)); (focus rfl)) | (((repeat (refine bld_c rfl rfl (by simp) ?_; simp only [List.set_cons_zero, List.set_cons_succ])); refine bld_n ?_)) | (refine d_new _ d fun bn w d => ?_) | ((first | refine bsl1 (by first | rfl | (simp only [cells_agg, cells_int, cells_bool, cells_ptr, cells_sl, cells_map, cells_fn, List.drop_succ_cons, List.drop_zero, List.take_succ_cons, List.take_zero, Nat.zero_add, Nat.reduceAdd, Int.toNat_natCast, Int.toNat_zero]; rfl)) rfl d (by decide) (by decide) fun bn w d => ?_ | refine bsl2 rfl rfl d fun bn w d => ?_ | refine bsl0 d fun bn w d => ?_)) | (first | refine drw d fun w d => ?_ | refine qt d ?_ | refine qe_nil ?_ | refine qe_fa ?_ | refine qe_len ?_ | (apply qlm; (focus ((repeat (first | exact .h _ | refine .t _ _ ?_)); done)); (focus rfl)) | (apply qam; (focus ((repeat (first | exact .h _ | refine .t _ _ ?_)); done)); (focus rfl)) | refine qe _ (fun w d => by ((repeat (refine bld_c rfl rfl (by simp) ?_; simp only [List.set_cons_zero, List.set_cons_succ])); refine bld_n ?_); exact ⟨rfl, rfl⟩) ?_ | refine qe_ext rfl ?_) | (apply swm d; (focus ((repeat (first | exact .h _ | apply Rp.t)); done)); (focus rfl); (focus rfl); (focus exact ones rfl); intro w d; simp only [SPL] at d) | (apply stm d; (focus ((repeat (first | exact .h _ | apply Rp.t)); done)); (focus rfl); (focus simp); (focus exact ones rfl); intro w d; simp only [SPL] at d) | (apply lpm d; (focus ((repeat (first | exact .h _ | refine .t _ _ ?_)); done)); (focus (simp only [SEM]; rfl)); (focus rfl)))
  obtain ⟨b1, c1, cs, rfl, g, hc⟩ := rec_at wc_len d.swap (i := (i : Int)) (by omega) (by omega)
  refine ia_ok (by omega) (by omega) ?_
  repeat (first | (simp +decide only [SEM]) | (apply ldm d; (focus ((repeat (first | exact .h _ | refine .t _ _ ?_)); done)); (focus rfl)) | (apply lam d; (focus ((repeat (first | exact .h _ | refine .t _ _ ?_)); done)); (focus rfl)) | (((repeat (refine bld_c rfl rfl (by simp) ?_; simp only [List.set_cons_zero, List.set_cons_succ])); refine bld_n ?_)) | (refine d_new _ d fun bn w d => ?_) | ((first | refine bsl1 (by first | rfl | (simp only [cells_agg, cells_int, cells_bool, cells_ptr, cells_sl, cells_map, cells_fn, List.drop_succ_cons, List.drop_zero, List.take_succ_cons, List.take_zero, Nat.zero_add, Nat.reduceAdd, Int.toNat_natCast, Int.toNat_zero]; rfl)) rfl d (by decide) (by decide) fun bn w d => ?_ | refine bsl2 rfl rfl d fun bn w d => ?_ | refine bsl0 d fun bn w d => ?_)) | (first | refine drw d fun w d => ?_ | refine qt d ?_ | refine qe_nil ?_ | refine qe_fa ?_ | refine qe_len ?_ | (apply qlm; (focus ((repeat (first | exact .h _ | refine .t _ _ ?_)); done)); (focus rfl)) | (apply qam; (focus ((repeat (first | exact .h _ | refine .t _ _ ?_)); done)); (focus rfl)) | refine qe _ (fun w d => by ((repeat (refine bld_c rfl rfl (by simp) ?_; simp only [List.set_cons_zero, List.set_cons_succ])); refine bld_n ?_); exact ⟨rfl, rfl⟩) ?_ | refine qe_ext rfl ?_) | (apply swm d; (focus ((repeat (first | exact .h _ | apply Rp.t)); done)); (focus rfl); (focus rfl); (focus exact ones rfl); intro w d; simp only [SPL] at d) | (apply stm d; (focus ((repeat (first | exact .h _ | apply Rp.t)); done)); (focus rfl); (focus simp); (focus exact ones rfl); intro w d; simp only [SPL] at d) | (apply lpm d; (focus ((repeat (first | exact .h _ | refine .t _ _ ?_)); done)); (focus (simp only [SEM]; rfl)); (focus rfl)))
  refine ld1 g (hc 1 _ rfl) ?_
  exact k2 i (by omega) hi _ (Ws.mk d)
end
end Go.Proofs.Ythjkmgckkacegaa
