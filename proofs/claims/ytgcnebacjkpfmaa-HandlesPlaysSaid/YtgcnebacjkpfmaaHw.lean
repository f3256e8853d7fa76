/- Handles: entries, room, clearing; the law's own comparisons. -/
import Derived.Test.YtgcnebacjkpfmaaHv
import Derived.Test.YtgcnebacjkpfmaaSl
set_option maxRecDepth 100000
set_option maxHeartbeats 4000000
namespace Go.Proofs.Ytgcnebacjkpfmaa
open Go Go.Jac
/-- The entries so far, in a list of their own. -/
def Els (bo l : Nat) (r0 : Loop) (acc : List Slot) : HP := ex fun sv => sat [pts l (.loop r0), cel bo 44 [sv], Rw 35 3 sv acc.length (acc.flatMap ec)]
section
variable {w0 w : World} {L : List HP} {K : Value → WP} {b c : Nat} {cap : Int} {S : List Slot} {sv se : Value} {l : List Int}
theorem eqs3 {n : Bool} {a b c x y z : Int} (k : K (.bool (cond n (!decide (a = x ∧ b = y ∧ c = z)) (decide (a = x ∧ b = y ∧ c = z)))) w) :
    EqS 3 n (ent a b c) (ent x y z) K w := by
  refine EqS_mk (r := decide (a = x ∧ b = y ∧ c = z)) (xs := [.int .i64 a, .int .i64 b, .int .i64 c]) (ys := [.int .i64 x, .int .i64 y, .int .i64 z]) ?_ rfl rfl k
  simp only [intsEq, Bool.decide_and, if_true, Option.map_some, Bool.and_true]; rfl
theorem eqs3t {a b c : Int} {K : Value → WP} (k : K (.bool true) w) : EqS 3 false (.agg #[.int .i64 a, .int .i64 b, .int .i64 c]) (.agg #[.int .i64 a, .int .i64 b, .int .i64 c]) K w :=
  eqs3 (n := false) (by simpa using k)
theorem eqs3f {a b c : Int} {K : Value → WP} (k : K (.bool false) w) : EqS 3 true (.agg #[.int .i64 a, .int .i64 b, .int .i64 c]) (.agg #[.int .i64 a, .int .i64 b, .int .i64 c]) K w :=
  eqs3 (n := true) (by simpa using k)
/-- Clearing a row, of which none is used any more. -/
theorem clr_row {elem es n c : Nat} {a : Option Addr} {cs : List Value} {zero : Array Value} (hz : zero.size = es) (h1 : ∀ u ∈ zero.toList, u.oneCell' = true) (d : D w0 (Rw elem es (.slice a n c) n cs :: L) w)
    (k : ∀ w', D w0 (Rw elem es (.slice a 0 c) 0 [] :: L) w' → K (.tuple #[]) w') : Ex pg (clrS zero (.slice a n c)) K w := by
  rcases Nat.eq_zero_or_pos n with hn | hn
  · subst hn
    have hl := Rw.len d.1
    have : cs = [] := List.length_eq_zero_iff.1 (by simpa using hl)
    subst this
    exact clr_0 (k w d)
  · have hl := Rw.len d.1
    obtain ⟨b, cap, junk, e, hle, hl2, s⟩ := Rw.block d.1 hn
    cases e
    have d1 : D w0 (cel b elem (cs ++ junk) :: L) w := ⟨s, d.2⟩
    refine clr_ok d1 hn h1 (by rw [hl2, hz, Nat.zero_add]; exact Nat.mul_le_mul_right _ hle) fun w' d' => k w' ⟨?_, d'.2⟩
    exact Rw.mk (cs := []) (n := 0) d'.1 (by omega) (by simp) (by rw [List.nil_append, splice_length]; exact hl2)
theorem Entries_ok (hS : S.length ≤ 65536) (d : D w0 (Tb b cap S :: L) w) (k : ∀ sv w', D w0 (Rw 35 3 sv (tkn S).length ((tkn S).flatMap ec) :: Tb b cap S :: L) w' → K sv w') :
    Cl pg 29 #[.pointer (some ⟨b, 0, none⟩)] K w := by
  refine V.handles_Table_Entries_ok ?_
  unfold V.handles_Table_Entries
  refine d_new [.slice none 0 0] d fun bo w1 d1 => ?_
  refine call_of (fun _ _ => rfl) (V.handles_Table_all_ok ?_)
  unfold V.handles_Table_all
  refine d_new' [.pointer (some ⟨b, 0, none⟩)] rfl d1 fun ba w2 d2 => ?_
  refine d_rf0 (fun _ _ => rfl) d2 fun m l r0 w3 hr hp hro d3 => ?_
  have d4 : D w0 (Els bo l r0 [] :: cel ba 28 [.pointer (some ⟨b, 0, none⟩)] :: Tb b cap S :: pts m (.deferred (some [])) :: L) w3 := by
    have e : D w0 (pts l (.loop r0) :: cel bo 44 [.slice none 0 0] :: cel ba 28 [.pointer (some ⟨b, 0, none⟩)] :: Tb b cap S :: pts m (.deferred (some [])) :: L) w3 := d3.sel [0, 3, 2, 4, 1]
    have e2 : D w0 (Rw 35 3 (.slice none 0 0) 0 [] :: pts l (.loop r0) :: cel bo 44 [.slice none 0 0] :: cel ba 28 [.pointer (some ⟨b, 0, none⟩)] :: Tb b cap S :: pts m (.deferred (some [])) :: L) w3 := ⟨Rw.nil _ _ e.1, e.2⟩
    exact D.mk_ex (A := fun sv => sat [pts l (.loop r0), cel bo 44 [sv], Rw 35 3 sv 0 []]) (.slice none 0 0) (D.close (M := [_, _, _]) (e2.sel [1, 2, 0]))
  refine all_ok (Els bo l r0) hS ?_ d4 fun w4 d5 => ?_
  · intro acc x F w K hacc d6 k6
    obtain ⟨sv, d6⟩ := d6.ex
    have d6 := d6.opens
    refine y_ok (args := [.int .i64 x.v, x.ent]) hro d6 ?_
    simp only [UN, UNe]
    refine d_new [.int .i64 0, .int .i64 0, .int .i64 0] d6 fun be w d6 => ?_
    refine d_st d6 rfl (by simp []) (ones rfl) fun w d6 => ?_
    have d6 : D w0 (pts l (.loop r0) :: cel be 35 (ec x) :: cel bo 44 [sv] :: Rw 35 3 sv acc.length (acc.flatMap ec) :: F) w := d6.swap
    refine d_beg d6 hr fun w7 d7 => ?_
    refine ld1 (d7.pick 2).get rfl ?_
    refine ldAll (d7.pick 1).get rfl ?_
    refine d_bsl (ec x) d7 (by decide) (by kernel_rfl) fun bx w8 d8 => ?_
    refine d_app (m := 1) (D.sel [4] d8) (src_of (D.sel [1] (D.sel [4] d8)).get rfl (ones rfl) 1) rfl (by omega) (by omega) (by omega) (ones rfl) fun sv' w9 d9 => ?_
    obtain ⟨p', c', rfl, -⟩ := Rw.shape d9.1
    refine d_st (D.sel [4] d9) rfl (by simp) (ones rfl) fun w10 d10 => ?_
    have d10 : D w0 (pts l (.loop { r0 with state := .busy }) :: cel bo 44 [.slice p' (acc.length + 1) c'] :: Rw 35 3 (.slice p' (acc.length + 1) c') (acc.length + 1) ((acc.flatMap ec) ++ ec x) :: F) w10 := (D.sel [2, 4, 3, 0, 1] d10).tail.tail
    refine d_end0 d10 fun w11 d11 => k6 w11 ?_
    rw [loop_eta hr hp] at d11
    have e : D w0 (pts l (.loop r0) :: cel bo 44 [.slice p' (acc.length + 1) c'] :: Rw 35 3 (.slice p' (acc.length + 1) c') (acc ++ [x]).length ((acc ++ [x]).flatMap ec) :: F) w11 := by
      simpa using d11
    exact D.mk_ex (A := fun sv => sat [pts l (.loop r0), cel bo 44 [sv], Rw 35 3 sv (acc ++ [x]).length ((acc ++ [x]).flatMap ec)]) _ (D.close (M := [_, _, _]) e)
  · obtain ⟨sv, d5⟩ := d5.ex
    have d5 := d5.opens
    refine ⟨r0, _, d5, sameLp.refl r0, by rw [hr]; simp, fun w5 d6 => ?_⟩
    rw [hp]
    have d6 : D w0 (cel bo 44 [sv] :: Rw 35 3 sv (tkn S).length ((tkn S).flatMap ec) :: cel ba 28 [.pointer (some ⟨b, 0, none⟩)] :: Tb b cap S :: pts m (.deferred (some [])) :: L) w5 := d6
    refine ld1 d6.get rfl ?_
    refine d_lv1 (d6.sel [4]) fun w6 d7 => ?_
    have d7 : D w0 (cel bo 44 [sv] :: Rw 35 3 sv (tkn S).length ((tkn S).flatMap ec) :: cel ba 28 [.pointer (some ⟨b, 0, none⟩)] :: Tb b cap S :: L) w6 := d7
    exact k _ _ d7.tail.tail2
theorem Room_ok (hS : TOk cap S) (d : D w0 (Tb b cap S :: L) w) (k : ∀ w', D w0 (Tb b cap S :: L) w' → K (.int .i64 (cap - cnt S)) w') : Cl pg 30 #[.pointer (some ⟨b, 0, none⟩)] K w := by
  refine V.handles_Table_Room_ok ?_
  unfold V.handles_Table_Room
  obtain ⟨sv, d⟩ := Tb.out d
  have h1 := hS.1; have h2 := hS.2; have h3 := cnt_le S
  refine drw d fun w d => ?_
  refine qt d ?_
  repeat (first | (simp +decide only [SEM]) | refine qe_nil ?_ | (apply qlm; (focus ((repeat (first | exact .h _ | refine .t _ _ ?_)); done)); (focus rfl)))
  rw [w64 (by omega) (by omega)]
  exact k _ (Tb.mk d)
theorem ref_ok {o kd r : Int} (d : D w0 L w) (k : ∀ w', D w0 L w' → K (.agg #[.int .i64 o, .int .i64 kd, .int .i64 r]) w') : Cl pg 39 #[.agg #[.int .i64 o, .int .i64 kd, .int .i64 r]] K w := by
  refine V.jacinthlaw06_ref_ok ?_
  unfold V.jacinthlaw06_ref
  refine d_new' [.int .i64 o, .int .i64 kd, .int .i64 r] rfl d fun be w d => ?_
  repeat (first | (simp +decide only [SEM]) | (apply ldm d; (focus ((repeat (first | exact .h _ | refine .t _ _ ?_)); done)); (focus rfl)) | (apply lam d; (focus ((repeat (first | exact .h _ | refine .t _ _ ?_)); done)); (focus rfl)) | (((repeat (refine bld_c rfl rfl (by simp) ?_; simp only [List.set_cons_zero, List.set_cons_succ])); refine bld_n ?_)) | (refine d_new _ d fun bn w d => ?_) | (apply swm d; (focus ((repeat (first | exact .h _ | apply Rp.t)); done)); (focus rfl); (focus rfl); (focus exact ones rfl); intro w d; simp only [SPL] at d))
  exact k _ d.tail.tail
theorem ints_ok {X : List Slot} {p q : Option Addr} {cp cq : Nat} (hX : X.length ≤ 65536) (d : D w0 (Rw 3 1 (.slice p X.length cp) X.length (X.flatMap vc) :: Rw 3 1 (.slice q X.length cq) X.length (X.flatMap vc) :: L) w) (k : ∀ w', D w0 (Rw 3 1 (.slice p X.length cp) X.length (X.flatMap vc) :: Rw 3 1 (.slice q X.length cq) X.length (X.flatMap vc) :: L) w' → K (.bool true) w') : Cl pg 27 #[.slice p X.length cp, .slice q X.length cq] K w := by
  refine V.jacinthlaw06_ints_ok ?_
  unfold V.jacinthlaw06_ints
  repeat (simp +decide only [SEM])
  refine ⟨fun vs w' => ∃ (u : Value) (i : Nat), vs = [u, .int .i64 i] ∧ i ≤ X.length ∧ D w0 (Rw 3 1 (.slice p X.length cp) X.length (X.flatMap vc) :: Rw 3 1 (.slice q X.length cq) X.length (X.flatMap vc) :: L) w', fun vs _ => match vs with | [_, .int _ i] => X.length - i.toNat | _ => 0, ⟨_, 0, rfl, by omega, d⟩, ?_⟩
  clear d
  rintro _ w ⟨u, i, rfl, hi, d⟩ _
  simp only [UN]
  repeat (simp +decide only [SEM])
  refine ⟨fun hlt => ?_, fun hge => k _ d⟩
  have hlt' : i < X.length := by omega
  have hw1 : IntKind.i64.wrap ((i : Int) + 1) = i + 1 := w64 (by omega) (by omega)
  refine drw d fun w d => ?_
  obtain ⟨qa, ca, e⟩ := rw_ptr d (.h _) (by omega)
  cases e
  obtain ⟨qb, cb, e⟩ := rw_ptr d (.t _ _ (.h _)) (by omega)
  cases e
  refine qt d ?_
  repeat (first | (simp +decide only [SEM]) | refine qia (by first | omega | (simp; omega)) ?_ | (focus (apply ql0; (focus ((repeat (first | exact .h _ | refine .t _ _ ?_)); done)); (focus exact fun _ => rfl); (focus rfl); rotate_left; (focus (first | omega | (simp; done) | (simp; omega))))))
  rw [hw1]
  exact ⟨⟨u, i + 1, by simp, by omega, d⟩, by omega⟩
theorem same_ok {X : List Slot} {p q : Option Addr} {cp cq : Nat} (hX : X.length ≤ 65536) (d : D w0 (Rw 35 3 (.slice p X.length cp) X.length (X.flatMap ec) :: Rw 89 3 (.slice q X.length cq) X.length (X.flatMap ec) :: L) w) (k : ∀ w', D w0 (Rw 35 3 (.slice p X.length cp) X.length (X.flatMap ec) :: Rw 89 3 (.slice q X.length cq) X.length (X.flatMap ec) :: L) w' → K (.bool true) w') : Cl pg 28 #[.slice p X.length cp, .slice q X.length cq] K w := by
  refine V.jacinthlaw06_same_ok ?_
  unfold V.jacinthlaw06_same
  repeat (simp +decide only [SEM])
  refine ⟨fun vs w' => ∃ (u : Value) (i : Nat), vs = [u, .int .i64 i] ∧ i ≤ X.length ∧ D w0 (Rw 35 3 (.slice p X.length cp) X.length (X.flatMap ec) :: Rw 89 3 (.slice q X.length cq) X.length (X.flatMap ec) :: L) w', fun vs _ => match vs with | [_, .int _ i] => X.length - i.toNat | _ => 0, ⟨_, 0, rfl, by omega, d⟩, ?_⟩
  clear d
  rintro _ w ⟨u, i, rfl, hi, d⟩ _
  simp only [UN]
  repeat (simp +decide only [SEM])
  refine ⟨fun hlt => ?_, fun hge => k _ d⟩
  have hlt' : i < X.length := by omega
  have hw1 : IntKind.i64.wrap ((i : Int) + 1) = i + 1 := w64 (by omega) (by omega)
  refine drw d fun w d => ?_
  obtain ⟨qa, ca, e⟩ := rw_ptr d (.h _) (by omega)
  cases e
  obtain ⟨qb, cb, e⟩ := rw_ptr d (.t _ _ (.h _)) (by omega)
  cases e
  refine qt d ?_
  repeat (first | refine qia (by first | omega | (simp; omega)) ?_ | (focus (apply qln; (focus ((repeat (first | exact .h _ | refine .t _ _ ?_)); done)); (focus exact fun _ => rfl); rotate_left; (focus (first | omega | (simp; done) | (simp; omega))))))
  refine fn10 (fun _ _ => rfl) (ref_ok d fun w d => ?_)
  refine ch d ?_
  refine eqs3f ?_
  repeat (simp +decide only [SEM])
  rw [hw1]
  exact ⟨⟨u, i + 1, by simp, by omega, d⟩, by omega⟩
theorem Clear_ok (hS : TOk cap S) (d : D w0 (Tb b cap S :: L) w) (k : ∀ p c w', D w0 (Rw 35 3 (.slice p (tkn S).length c) (tkn S).length ((tkn S).flatMap ec) :: Tb b cap [] :: L) w' → K (.slice p (tkn S).length c) w') : Cl pg 46 #[.pointer (some ⟨b, 0, none⟩)] K w := by
  refine V.handles_Table_Clear_ok ?_
  unfold V.handles_Table_Clear
  have h1 := hS.1; have h2 := hS.2
  refine fn10 (fun _ _ => rfl) (Entries_ok (by omega) d fun se w d => ?_)
  obtain ⟨p, c, rfl, -⟩ := Rw.shape d.1
  obtain ⟨sv, d⟩ := Tb.out d.swap
  obtain ⟨q, cq, rfl, -⟩ := Rw.shape d.swap.1
  repeat (first | (simp +decide only [SEM]) | (apply ldm d; (focus ((repeat (first | exact .h _ | refine .t _ _ ?_)); done)); (focus rfl)))
  refine clr_row (es := 4) rfl (ones rfl) d.swap fun w d => ?_
  repeat (first | (simp +decide only [SEM]) | (apply ldm d; (focus ((repeat (first | exact .h _ | refine .t _ _ ?_)); done)); (focus rfl)))
  refine slc_ok (v := .slice q 0 cq) 0 0 ⟨_, rfl, by omega⟩ rfl ?_ ?_
  · congr 1
    split
    · rfl
    · cases q with
      | none => rfl
      | some a => cases a; simp [Addr.add]
  repeat (first | (simp +decide only [SEM]) | (apply stm d; (focus ((repeat (first | exact .h _ | apply Rp.t)); done)); (focus rfl); (focus simp); (focus exact ones rfl); intro w d; simp only [SPL] at d))
  have d2 := Tb.mk (b := b) (cap := cap) (S := []) (sv := .slice q 0 cq) d.swap
  exact k _ _ _ d2.swap
end
end Go.Proofs.Ytgcnebacjkpfmaa
