/- Handles: the places that are taken, one after the other. -/
import Derived.Test.YtgcnebacjkpfmaaHe
import Derived.Test.YtgcnebacjkpfmaaSn
import Derived.Test.YtgcnebacjkpfmaaSg
set_option maxRecDepth 100000
namespace Go.Proofs.Ytgcnebacjkpfmaa
open Go Go.Jac
/-- The places that are taken. -/
def tkn (S : List Slot) : List Slot := S.filter fun x => decide (x.v ≠ 0)
theorem tkn_take {S : List Slot} {i : Nat} (h : i < S.length) : tkn (S.take (i + 1)) = if S[i].v ≠ 0 then tkn (S.take i) ++ [S[i]] else tkn (S.take i) := by
  unfold tkn
  rw [List.take_succ_eq_append_getElem h, List.filter_append]
  by_cases hv : S[i].v = 0 <;> simp [hv]
section
variable {w0 w : World} {L : List HP} {K : Value → WP} {b : Nat} {cap : Int} {S : List Slot}
theorem all_ok {ba : Nat} {y : Value} (M : List Slot → HP) (hS : S.length ≤ 65536)
    (hy : ∀ (acc : List Slot) (x : Slot) (F : List HP) (w : World) (K : Value → WP), acc.length < 65536 → D w0 (M acc :: F) w → (∀ w', D w0 (M (acc ++ [x]) :: F) w' → K (.bool true) w') → FnV pg y #[.int .i64 x.v, x.ent] K w)
    (d : D w0 (M [] :: cel ba 28 [.pointer (some ⟨b, 0, none⟩)] :: Tb b cap S :: L) w)
    (k : ∀ w', D w0 (M (tkn S) :: cel ba 28 [.pointer (some ⟨b, 0, none⟩)] :: Tb b cap S :: L) w' → K (.tuple #[]) w') :
    Cl pg 48 #[y, .pointer (some ⟨ba, 0, none⟩)] K w := by
  refine V.handles_Table_all_c1_ok ?_
  unfold V.handles_Table_all_c1
  refine ld1 d.swap.get rfl ?_
  simp +decide only [NilC_p, FA_p]
  obtain ⟨sv, d1⟩ := Tb.out (d.pick 2)
  obtain ⟨p, c, rfl, -⟩ := Rw.shape d1.swap.1
  refine ld1 d1.get rfl ?_
  rw [LenS_s]
  have dI : D w0 (M (tkn (S.take 0)) :: cel ba 28 [.pointer (some ⟨b, 0, none⟩)] :: cel b 72 [.slice p S.length c, .int .i64 cap, .int .i64 (cnt S)] :: Rw 75 4 (.slice p S.length c) S.length (S.flatMap sc) :: L) w := (D.pick 3 (d1.pick 3))
  refine ⟨fun vs w' => ∃ (i : Nat), vs = [.int .i64 i] ∧ i ≤ S.length ∧ D w0 (M (tkn (S.take i)) :: cel ba 28 [.pointer (some ⟨b, 0, none⟩)] :: cel b 72 [.slice p S.length c, .int .i64 cap, .int .i64 (cnt S)] :: Rw 75 4 (.slice p S.length c) S.length (S.flatMap sc) :: L) w', fun vs _ => match vs with | [.int _ i] => S.length - i.toNat | _ => 0, ⟨0, rfl, by omega, dI⟩, ?_⟩
  rintro _ w1 ⟨i, rfl, hi, d2⟩ _
  simp +decide only [UN, Cnd_b, BinI_lss, decide_eq_true_eq, decide_eq_false_iff_not]
  refine ⟨fun hlt => ?_, fun hge => ?_⟩
  · have hlt' : i < S.length := by omega
    obtain ⟨b1, c1, cs, e, g, hc⟩ := rec_at sc_len (d2.pick 3) (i := (i : Int)) (by omega) hlt
    cases e
    refine ia0 (by omega) hlt ?_
    refine ldN g (sc S[i]) rfl (fun j x hx => hc j x hx) ?_
    refine d_new [.int .i64 0, .int .i64 0, .int .i64 0, .int .i64 0] d2 fun bx w2 d3 => ?_
    refine d_st d3 rfl (by simp []) (ones rfl) fun w3 d4 => ?_
    have g4 := d4.get
    simp +decide only [FA_p]
    refine ld1 g4 rfl ?_
    have ht := tkn_take hlt'
    simp +decide only [FA_p, Grd_t, BinI_add, BinI_neq, decide_eq_true_eq, decide_eq_false_iff_not, Bool.not_true, Bool.not_false, Bool.not_eq_eq_eq_not]
    refine ⟨fun hz => ?_, fun hz => ?_⟩
    · refine ld1 g4 rfl ?_
      simp +decide only [FA_p]
      refine ldN g4 [.int .i64 S[i].o, .int .i64 S[i].k, .int .i64 S[i].r] rfl (fun j x hx => ?_) ?_
      · have hj := (List.getElem?_eq_some_iff.1 hx).1
        rw [← hx]
        match j, hj with
        | 0, _ => rfl
        | 1, _ => rfl
        | 2, _ => rfl
      rw [if_pos hz] at ht
      refine hy (tkn (S.take i)) S[i] _ _ _ ?_ d4.tail fun w4 d5 => ?_
      · have : (tkn (S.take i)).length ≤ (S.take i).length := List.length_filter_le _ _
        rw [List.length_take] at this
        omega
      rw [← ht] at d5
      simp +decide only [Cnd_b, BinI_add, Un_not, Bool.not_true, false_implies, true_and, forall_const]
      rw [w64 (by omega) (by omega)]
      exact ⟨⟨i + 1, by simp, by omega, d5⟩, by show S.length - ((i : Int) + 1).toNat < S.length - (i : Int).toNat; omega⟩
    · rw [if_neg (by simpa using hz)] at ht
      rw [← ht] at d4
      rw [w64 (by omega) (by omega)]
      exact ⟨⟨i + 1, by simp, by omega, d4.tail⟩, by show S.length - ((i : Int) + 1).toNat < S.length - (i : Int).toNat; omega⟩
  · have e : S.take i = S := List.take_of_length_le (by omega)
    rw [e] at d2
    exact k _ (D.pick 2 (D.pick 2 (Tb.mk (D.pick 3 (D.pick 3 d2)))))
/-- The values so far, in a list of their own. -/
def Vls (bo l : Nat) (r0 : Loop) (acc : List Slot) : HP := ex fun sv => sat [pts l (.loop r0), cel bo 43 [sv], Rw 3 1 sv acc.length (acc.map fun x => .int .i64 x.v)]
theorem flat_map1 {α : Type} (f : α → Value) (l : List α) : l.map f = l.flatMap fun x => [f x] := by induction l <;> simp_all
theorem Values_ok (hS : S.length ≤ 65536) (d : D w0 (Tb b cap S :: L) w) (k : ∀ sv w', D w0 (Rw 3 1 sv (tkn S).length ((tkn S).map fun x => .int .i64 x.v) :: Tb b cap S :: L) w' → K sv w') :
    Cl pg 21 #[.pointer (some ⟨b, 0, none⟩)] K w := by
  refine V.handles_Table_Values_ok ?_
  unfold V.handles_Table_Values
  refine d_new [.slice none 0 0] d fun bo w1 d1 => ?_
  refine call_of (fun _ _ => rfl) (V.handles_Table_all_ok ?_)
  unfold V.handles_Table_all
  refine d_new' [.pointer (some ⟨b, 0, none⟩)] rfl d1 fun ba w2 d2 => ?_
  refine d_rf0 (fun _ _ => rfl) d2 fun m l r0 w3 hr hp hro d3 => ?_
  have d4 : D w0 (Vls bo l r0 [] :: cel ba 28 [.pointer (some ⟨b, 0, none⟩)] :: Tb b cap S :: pts m (.deferred (some [])) :: L) w3 := by
    have e : D w0 (pts l (.loop r0) :: cel bo 43 [.slice none 0 0] :: cel ba 28 [.pointer (some ⟨b, 0, none⟩)] :: Tb b cap S :: pts m (.deferred (some [])) :: L) w3 := d3.sel [0, 3, 2, 4, 1]
    have e2 : D w0 (Rw 3 1 (.slice none 0 0) 0 [] :: pts l (.loop r0) :: cel bo 43 [.slice none 0 0] :: cel ba 28 [.pointer (some ⟨b, 0, none⟩)] :: Tb b cap S :: pts m (.deferred (some [])) :: L) w3 := ⟨Rw.nil _ _ e.1, e.2⟩
    exact D.mk_ex (A := fun sv => sat [pts l (.loop r0), cel bo 43 [sv], Rw 3 1 sv 0 []]) (.slice none 0 0) (D.close (M := [_, _, _]) (e2.sel [1, 2, 0]))
  refine all_ok (Vls bo l r0) hS ?_ d4 fun w4 d5 => ?_
  · intro acc x F w K hacc d6 k6
    obtain ⟨sv, d6⟩ := d6.ex
    have d6 := d6.opens
    refine y_ok (args := [.int .i64 x.v, x.ent]) hro d6 ?_
    simp only [UN, UNe]
    refine d_beg d6 hr fun w7 d7 => ?_
    refine ld1 d7.swap.get rfl ?_
    refine d_bsl [.int .i64 x.v] d7 (by decide) (by kernel_rfl) fun bx w8 d8 => ?_
    refine d_app (m := 1) (D.pick 3 d8) (src_of d8.get rfl (ones rfl) 1) rfl (by omega) (by omega) (by omega) (ones rfl) fun sv' w9 d9 => ?_
    obtain ⟨p', c', rfl, -⟩ := Rw.shape d9.1
    refine d_st (D.pick 3 d9) rfl (by simp) (ones rfl) fun w10 d10 => ?_
    have d10 : D w0 (cel bo 43 [.slice p' (acc.length + 1) c'] :: Rw 3 1 (.slice p' (acc.length + 1) c') (acc.length + 1) ((acc.map fun x => Value.int .i64 x.v) ++ [.int .i64 x.v]) :: cel bx 3 [.int .i64 x.v] :: pts l (.loop { r0 with state := .busy }) :: F) w10 := d10
    refine d_end0 (d10.sel [3]) fun w11 d11 => k6 w11 ?_
    rw [loop_eta hr hp] at d11
    have e : D w0 (pts l (.loop r0) :: cel bo 43 [.slice p' (acc.length + 1) c'] :: Rw 3 1 (.slice p' (acc.length + 1) c') (acc ++ [x]).length ((acc ++ [x]).map fun x => Value.int .i64 x.v) :: F) w11 := by
      have e0 : D w0 (pts l (.loop r0) :: cel bo 43 [.slice p' (acc.length + 1) c'] :: Rw 3 1 (.slice p' (acc.length + 1) c') (acc.length + 1) ((acc.map fun x => Value.int .i64 x.v) ++ [.int .i64 x.v]) :: F) w11 := (d11.sel [3]).tail
      simpa using e0
    exact D.mk_ex (A := fun sv => sat [pts l (.loop r0), cel bo 43 [sv], Rw 3 1 sv (acc ++ [x]).length ((acc ++ [x]).map fun x => Value.int .i64 x.v)]) _ (D.close (M := [_, _, _]) e)
  · obtain ⟨sv, d5⟩ := d5.ex
    have d5 := d5.opens
    refine ⟨r0, _, d5, sameLp.refl r0, by rw [hr]; simp, fun w5 d6 => ?_⟩
    rw [hp]
    have d6 : D w0 (cel bo 43 [sv] :: Rw 3 1 sv (tkn S).length ((tkn S).map fun x => Value.int .i64 x.v) :: cel ba 28 [.pointer (some ⟨b, 0, none⟩)] :: Tb b cap S :: pts m (.deferred (some [])) :: L) w5 := d6
    refine ld1 d6.get rfl ?_
    refine d_lv1 (d6.sel [4]) fun w6 d7 => ?_
    have d7 : D w0 (cel bo 43 [sv] :: Rw 3 1 sv (tkn S).length ((tkn S).map fun x => Value.int .i64 x.v) :: cel ba 28 [.pointer (some ⟨b, 0, none⟩)] :: Tb b cap S :: L) w6 := d7
    exact k _ _ d7.tail.tail2
end
end Go.Proofs.Ytgcnebacjkpfmaa
