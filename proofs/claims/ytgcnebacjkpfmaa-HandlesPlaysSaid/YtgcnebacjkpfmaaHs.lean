/- Handles: the reference's table: counting, finding, looking, closing. -/
import Derived.Test.YtgcnebacjkpfmaaHr
import Derived.Test.YtgcnebacjkpfmaaHm
set_option maxRecDepth 100000
set_option maxHeartbeats 4000000
namespace Go.Proofs.Ytgcnebacjkpfmaa
open Go Go.Jac
def vc (x : Slot) : List Value := [.int .i64 x.v]
theorem vc_len (x : Slot) : (vc x).length = 1 := rfl
def Rt (c : Nat) (cap : Int) (S : List Slot) : HP := ex fun sv => ex fun se => sat [cel c 61 [sv, se, .int .i64 cap], Rw 3 1 sv S.length (S.flatMap vc), Rw 89 3 se S.length (S.flatMap ec)]
/-- Each value tells its place. -/
def GInv (S : List Slot) : Prop := ∀ (p : Nat) (x : Slot), S[p]? = some x → x.v ≠ 0 → hplc x.v = p
def lk (S : List Slot) (v : Int) : Int := match look S v with
  | some p => p
  | none => -1
theorem cnt_take {S : List Slot} {i : Nat} (h : i < S.length) : cnt (S.take (i + 1)) = cnt (S.take i) + (if S[i].v ≠ 0 then 1 else 0) := by
  unfold cnt
  rw [List.take_succ_eq_append_getElem h, List.countP_append]
  split
  · rename_i hv; simp [hv]
  · rename_i hv; simp at hv; simp [hv]
section
variable {w0 w : World} {L : List HP} {K : Value → WP} {c : Nat} {cap : Int} {S : List Slot} {sv se : Value}
theorem Rt.out (d : D w0 (Rt c cap S :: L) w) : ∃ sv se, D w0 (cel c 61 [sv, se, .int .i64 cap] :: Rw 3 1 sv S.length (S.flatMap vc) :: Rw 89 3 se S.length (S.flatMap ec) :: L) w := by
  obtain ⟨sv, d⟩ := d.ex
  obtain ⟨se, d⟩ := d.ex
  exact ⟨sv, se, d.opens⟩
theorem Rt.mk (d : D w0 (cel c 61 [sv, se, .int .i64 cap] :: Rw 3 1 sv S.length (S.flatMap vc) :: Rw 89 3 se S.length (S.flatMap ec) :: L) w) : D w0 (Rt c cap S :: L) w :=
  D.mk_ex (A := fun sv => ex fun se => sat [cel c 61 [sv, se, .int .i64 cap], Rw 3 1 sv S.length (S.flatMap vc), Rw 89 3 se S.length (S.flatMap ec)]) sv
    (D.mk_ex (A := fun se => sat [cel c 61 [sv, se, .int .i64 cap], Rw 3 1 sv S.length (S.flatMap vc), Rw 89 3 se S.length (S.flatMap ec)]) se (D.close (M := [_, _, _]) d))
theorem RCount_ok {q : Option Addr} {cq : Nat} (hS : S.length ≤ 65536) (d : D w0 (cel c 61 [.slice q S.length cq, se, .int .i64 cap] :: Rw 3 1 (.slice q S.length cq) S.length (S.flatMap vc) :: L) w)
    (k : ∀ w', D w0 (cel c 61 [.slice q S.length cq, se, .int .i64 cap] :: Rw 3 1 (.slice q S.length cq) S.length (S.flatMap vc) :: L) w' → K (.int .i64 (cnt S)) w') : Cl pg 50 #[.pointer (some ⟨c, 0, none⟩)] K w := by
  refine V.jacinthref06_Table_Count_ok ?_
  unfold V.jacinthref06_Table_Count
  refine ⟨fun vs w' => ∃ (i : Nat), vs = [.int .i64 (cnt (S.take i)), .int .i64 i] ∧ i ≤ S.length ∧ D w0 (cel c 61 [.slice q S.length cq, se, .int .i64 cap] :: Rw 3 1 (.slice q S.length cq) S.length (S.flatMap vc) :: L) w', fun vs _ => match vs with | [_, .int _ i] => S.length - i.toNat | _ => 0, ⟨0, by simp [cnt], by omega, d⟩, ?_⟩
  clear d
  rintro _ w ⟨i, rfl, hi, d⟩ _
  simp only [UN]
  repeat (first | (simp +decide only [SEM]) | (apply ldm d; (focus ((repeat (first | exact .h _ | refine .t _ _ ?_)); done)); (focus rfl)))
  refine ⟨fun hlt => ?_, fun hge => ?_⟩
  · have hlt' : i < S.length := by omega
    have hc := cnt_take hlt'
    have hcl := cnt_le (S.take i)
    have htl : (S.take i).length ≤ i := by rw [List.length_take]; omega
    have hw1 : IntKind.i64.wrap ((i : Int) + 1) = i + 1 := w64 (by omega) (by omega)
    have hw2 : IntKind.i64.wrap (cnt (S.take i) + 1) = cnt (S.take i) + 1 := w64 (by omega) (by omega)
    repeat (first | (simp +decide only [SEM]) | (apply ldm d; (focus ((repeat (first | exact .h _ | refine .t _ _ ?_)); done)); (focus rfl)) | (focus (apply rw_el1 d; (focus ((repeat (first | exact .h _ | refine .t _ _ ?_)); done)); (focus exact fun _ => rfl); (focus rfl); rotate_left; (focus (first | omega | (simp; done) | (simp; omega))))))
    refine ⟨fun hz => ?_, fun hz => ?_⟩
    · rw [if_pos hz] at hc
      rw [hw1, hw2, ← hc]
      exact ⟨⟨i + 1, by simp, by omega, d⟩, by omega⟩
    · rw [if_neg (by simpa using hz), Int.add_zero] at hc
      rw [hw1, ← hc]
      exact ⟨⟨i + 1, by simp, by omega, d⟩, by omega⟩
  · have e : S.take i = S := List.take_of_length_le (by omega)
    rw [e]
    exact k w d
theorem RFind_ok {v : Int} {q : Option Addr} {cq : Nat} (hg : GInv S) (hS : S.length ≤ 65536) (d : D w0 (cel c 61 [.slice q S.length cq, se, .int .i64 cap] :: Rw 3 1 (.slice q S.length cq) S.length (S.flatMap vc) :: L) w)
    (k : ∀ w', D w0 (cel c 61 [.slice q S.length cq, se, .int .i64 cap] :: Rw 3 1 (.slice q S.length cq) S.length (S.flatMap vc) :: L) w' → K (.int .i64 (lk S v)) w') : Cl pg 51 #[.pointer (some ⟨c, 0, none⟩), .int .i64 v] K w := by
  refine V.jacinthref06_Table_Find_ok ?_
  unfold V.jacinthref06_Table_Find
  refine ⟨fun vs w' => ∃ (u : Value) (i : Nat), vs = [u, .int .i64 i] ∧ i ≤ S.length ∧ (∀ j (h : j < S.length), j < i → v = 0 ∨ S[j].v ≠ v) ∧ D w0 (cel c 61 [.slice q S.length cq, se, .int .i64 cap] :: Rw 3 1 (.slice q S.length cq) S.length (S.flatMap vc) :: L) w', fun vs _ => match vs with | [_, .int _ i] => S.length - i.toNat | _ => 0, ⟨_, 0, rfl, by omega, fun j _ h => by omega, d⟩, ?_⟩
  clear d
  rintro _ w ⟨u, i, rfl, hi, hno, d⟩ _
  simp only [UN]
  repeat (first | (simp +decide only [SEM]) | (apply ldm d; (focus ((repeat (first | exact .h _ | refine .t _ _ ?_)); done)); (focus rfl)))
  refine ⟨fun hlt => ?_, fun hge => ?_⟩
  · have hlt' : i < S.length := by omega
    have hw1 : IntKind.i64.wrap ((i : Int) + 1) = i + 1 := w64 (by omega) (by omega)
    have ext : (v = 0 ∨ S[i].v ≠ v) → ∀ j (h : j < S.length), j < i + 1 → v = 0 ∨ S[j].v ≠ v := fun hh j h hj => by
      by_cases e : j = i
      · subst e; exact hh
      · exact hno j h (by omega)
    skip
    refine ⟨fun hv => ?_, fun hv => ?_⟩
    · repeat (first | (simp +decide only [SEM]) | (apply ldm d; (focus ((repeat (first | exact .h _ | refine .t _ _ ?_)); done)); (focus rfl)) | (focus (apply rw_el1 d; (focus ((repeat (first | exact .h _ | refine .t _ _ ?_)); done)); (focus exact fun _ => rfl); (focus rfl); rotate_left; (focus (first | omega | (simp; done) | (simp; omega))))))
      refine ⟨fun hz => ?_, fun hz => ?_⟩
      · have hx : S[i]? = some S[i] := List.getElem?_eq_getElem hlt'
        have e := look_of hx (by have := hg i _ hx (by rw [hz]; exact hv); rwa [hz] at this) hz
        have := k w d
        unfold lk at this
        rw [e] at this
        exact this
      · rw [hw1]
        exact ⟨⟨u, i + 1, by simp, by omega, ext (.inr hz), d⟩, by omega⟩
    · rw [hw1]
      exact ⟨⟨u, i + 1, by simp, by omega, ext (.inl hv), d⟩, by omega⟩
  · have e : look S v = none := by
      cases h : look S v with
      | none => rfl
      | some p =>
        obtain ⟨hp, h1, h2⟩ := look_some h
        rcases hno p hp (by omega) with h3 | h3
        · exact absurd h3 (look_ne h)
        · exact absurd h1 h3
    have := k w d
    unfold lk at this
    rw [e] at this
    exact this
theorem RLook_ok {v kind need : Int} (hg : GInv S) (hS : S.length ≤ 65536) (d : D w0 (Rt c cap S :: L) w) (k1 : look S v = none → ∀ w', D w0 (Rt c cap S :: L) w' → K (.tuple #[ent 0 0 0, .int .i64 (-11)]) w')
    (k2 : ∀ p (hp : p < S.length), look S v = some p → ∀ w', D w0 (Rt c cap S :: L) w' → K (.tuple #[if findS S[p] kind need = 0 then S[p].ent else ent 0 0 0, .int .i64 (findS S[p] kind need)]) w') :
    Cl pg 40 #[.pointer (some ⟨c, 0, none⟩), .int .i64 v, .int .i64 kind, .int .i64 need] K w := by
  refine V.jacinthref06_Table_Look_ok ?_
  unfold V.jacinthref06_Table_Look
  obtain ⟨sv, se, d⟩ := Rt.out d
  obtain ⟨q, cq, rfl, -⟩ := Rw.shape d.swap.1
  obtain ⟨q2, cq2, rfl, -⟩ := Rw.shape (d.pick 2).1
  repeat (refine d_new _ d fun bn w d => ?_)
  generalize bn = b8 at d ⊢
  refine fn20 (fun _ _ => rfl) (RFind_ok hg hS (D.sel [1, 2] d) fun w d => ?_)
  cases hl : look S v with
  | none =>
    have e : lk S v = -1 := by unfold lk; rw [hl]
    rw [e]
    repeat (first | (simp +decide only [SEM]) | (apply lam d; (focus ((repeat (first | exact .h _ | refine .t _ _ ?_)); done)); (focus rfl)) | (((repeat (refine bld_c rfl rfl (by simp) ?_; simp only [List.set_cons_zero, List.set_cons_succ])); refine bld_n ?_)) | (apply swm d; (focus ((repeat (first | exact .h _ | apply Rp.t)); done)); (focus rfl); (focus rfl); (focus exact ones rfl); intro w d; simp only [SPL] at d))
    exact k1 hl _ (Rt.mk (D.sel [2, 0, 1, 3] d).tail)
  | some p =>
    have e : lk S v = p := by unfold lk; rw [hl]
    obtain ⟨hp, -, -⟩ := look_some hl
    have k2 := k2 p hp hl
    rw [e]
    repeat (simp +decide only [SEM])
    refine ⟨fun h => by omega, fun _ => ?_⟩
    repeat (first | (simp +decide only [SEM]) | (apply ldm d; (focus ((repeat (first | exact .h _ | refine .t _ _ ?_)); done)); (focus rfl)) | (refine d_new _ d fun bn w d => ?_) | (apply swm d; (focus ((repeat (first | exact .h _ | apply Rp.t)); done)); (focus rfl); (focus rfl); (focus exact ones rfl); intro w d; simp only [SPL] at d) | (focus (apply rw_elN d; (focus ((repeat (first | exact .h _ | refine .t _ _ ?_)); done)); (focus exact fun _ => rfl); rotate_left; (focus (first | omega | (simp; done) | (simp; omega))))))
    generalize S[p] = x at d k2
    obtain ⟨xv, xo, xk, xr⟩ := x
    generalize bn = b11 at d ⊢
    simp only [ec] at d
    refine ⟨fun h1 => ?_, fun h1 => ?_⟩
    · repeat (first | (simp +decide only [SEM]) | (apply ldm d; (focus ((repeat (first | exact .h _ | refine .t _ _ ?_)); done)); (focus rfl)))
      refine ⟨fun h2 => ?_, fun h2 => ?_⟩
      · skip
        have hf : findS ⟨xv, xo, xk, xr⟩ kind need = -12 := if_pos ⟨h1, h2⟩
        rw [hf, if_neg (by decide)] at k2
        repeat (first | (apply lam d; (focus ((repeat (first | exact .h _ | refine .t _ _ ?_)); done)); (focus rfl)) | (((repeat (refine bld_c rfl rfl (by simp) ?_; simp only [List.set_cons_zero, List.set_cons_succ])); refine bld_n ?_)) | (apply swm d; (focus ((repeat (first | exact .h _ | apply Rp.t)); done)); (focus rfl); (focus rfl); (focus exact ones rfl); intro w d; simp only [SPL] at d))
        exact k2 _ (Rt.mk (D.sel [0, 3, 1, 2, 4] d).tail.tail)
      · repeat (apply ldm d; (focus ((repeat (first | exact .h _ | refine .t _ _ ?_)); done)); (focus rfl))
        refine fn20 (fun _ _ => rfl) (Sub_ok ?_)
        repeat (simp +decide only [SEM])
        refine ⟨fun h3 => ?_, fun h3 => ?_⟩
        · skip
          have hf : findS ⟨xv, xo, xk, xr⟩ kind need = -30 := (if_neg (fun h => h.2 h2)).trans (if_neg h3)
          rw [hf, if_neg (by decide)] at k2
          repeat (first | (apply lam d; (focus ((repeat (first | exact .h _ | refine .t _ _ ?_)); done)); (focus rfl)) | (((repeat (refine bld_c rfl rfl (by simp) ?_; simp only [List.set_cons_zero, List.set_cons_succ])); refine bld_n ?_)) | (apply swm d; (focus ((repeat (first | exact .h _ | apply Rp.t)); done)); (focus rfl); (focus rfl); (focus exact ones rfl); intro w d; simp only [SPL] at d))
          exact k2 _ (Rt.mk (D.sel [0, 3, 1, 2, 4] d).tail.tail)
        · skip
          have hf : findS ⟨xv, xo, xk, xr⟩ kind need = 0 := (if_neg (fun h => h.2 h2)).trans (if_pos h3)
          rw [hf, if_pos rfl] at k2
          repeat (first | (apply lam d; (focus ((repeat (first | exact .h _ | refine .t _ _ ?_)); done)); (focus rfl)) | (apply swm d; (focus ((repeat (first | exact .h _ | apply Rp.t)); done)); (focus rfl); (focus rfl); (focus exact ones rfl); intro w d; simp only [SPL] at d))
          exact k2 _ (Rt.mk (D.sel [0, 3, 1, 2, 4] d).tail.tail)
    · repeat (apply ldm d; (focus ((repeat (first | exact .h _ | refine .t _ _ ?_)); done)); (focus rfl))
      refine fn20 (fun _ _ => rfl) (Sub_ok ?_)
      repeat (simp +decide only [SEM])
      refine ⟨fun h3 => ?_, fun h3 => ?_⟩
      · skip
        have hf : findS ⟨xv, xo, xk, xr⟩ kind need = -30 := (if_neg (fun h => h.1 h1)).trans (if_neg h3)
        rw [hf, if_neg (by decide)] at k2
        repeat (first | (apply lam d; (focus ((repeat (first | exact .h _ | refine .t _ _ ?_)); done)); (focus rfl)) | (((repeat (refine bld_c rfl rfl (by simp) ?_; simp only [List.set_cons_zero, List.set_cons_succ])); refine bld_n ?_)) | (apply swm d; (focus ((repeat (first | exact .h _ | apply Rp.t)); done)); (focus rfl); (focus rfl); (focus exact ones rfl); intro w d; simp only [SPL] at d))
        exact k2 _ (Rt.mk (D.sel [0, 3, 1, 2, 4] d).tail.tail)
      · skip
        have hf : findS ⟨xv, xo, xk, xr⟩ kind need = 0 := (if_neg (fun h => h.1 h1)).trans (if_pos h3)
        rw [hf, if_pos rfl] at k2
        repeat (first | (apply lam d; (focus ((repeat (first | exact .h _ | refine .t _ _ ?_)); done)); (focus rfl)) | (apply swm d; (focus ((repeat (first | exact .h _ | apply Rp.t)); done)); (focus rfl); (focus rfl); (focus exact ones rfl); intro w d; simp only [SPL] at d))
        exact k2 _ (Rt.mk (D.sel [0, 3, 1, 2, 4] d).tail.tail)
theorem RClose_any {v : Int} (hg : GInv S) (hS : S.length ≤ 65536) (d : D w0 (Rt c cap S :: L) w)
    (k : ∀ w', D w0 (Rt c cap (clo S v) :: L) w' → K (.tuple #[(clx S v).ent, .int .i64 (if look S v = none then -11 else 0)]) w') :
    Cl pg 41 #[.pointer (some ⟨c, 0, none⟩), .int .i64 v] K w := by
  refine V.jacinthref06_Table_Close_ok ?_
  unfold V.jacinthref06_Table_Close
  obtain ⟨sv, se, d⟩ := Rt.out d
  obtain ⟨q, cq, rfl, -⟩ := Rw.shape d.swap.1
  obtain ⟨q2, cq2, rfl, -⟩ := Rw.shape (d.pick 2).1
  repeat (refine d_new _ d fun bn w d => ?_)
  generalize bn = b8 at d ⊢
  refine fn20 (fun _ _ => rfl) (RFind_ok hg hS (D.sel [1, 2] d) fun w d => ?_)
  cases hl : look S v with
  | none =>
    have e : lk S v = -1 := by unfold lk; rw [hl]
    have e1 : clo S v = S := by unfold clo; rw [hl]
    have e2 : clx S v = ⟨0, 0, 0, 0⟩ := by unfold clx; rw [hl]
    rw [e1, e2, if_pos hl] at k
    rw [e]
    repeat (first | (simp +decide only [SEM]) | (apply lam d; (focus ((repeat (first | exact .h _ | refine .t _ _ ?_)); done)); (focus rfl)) | (((repeat (refine bld_c rfl rfl (by simp) ?_; simp only [List.set_cons_zero, List.set_cons_succ])); refine bld_n ?_)) | (apply swm d; (focus ((repeat (first | exact .h _ | apply Rp.t)); done)); (focus rfl); (focus rfl); (focus exact ones rfl); intro w d; simp only [SPL] at d))
    exact k _ (Rt.mk (D.sel [2, 0, 1, 3] d).tail)
  | some p =>
    have e : lk S v = p := by unfold lk; rw [hl]
    obtain ⟨hp, -, -⟩ := look_some hl
    have e1 : clo S v = S.set p ⟨0, 0, 0, 0⟩ := by unfold clo; rw [hl]
    have e2 : clx S v = S[p] := by unfold clx; rw [hl]; simp [hp]
    rw [e1, e2, if_neg (by rw [hl]; simp)] at k
    rw [e]
    repeat (simp +decide only [SEM])
    refine ⟨fun h => by omega, fun _ => ?_⟩
    repeat (first | (simp +decide only [SEM]) | (apply ldm d; (focus ((repeat (first | exact .h _ | refine .t _ _ ?_)); done)); (focus rfl)) | (refine d_new _ d fun bn w d => ?_) | (apply swm d; (focus ((repeat (first | exact .h _ | apply Rp.t)); done)); (focus rfl); (focus rfl); (focus exact ones rfl); intro w d; simp only [SPL] at d) | (focus (apply rw_elN d; (focus ((repeat (first | exact .h _ | refine .t _ _ ?_)); done)); (focus exact fun _ => rfl); rotate_left; (focus (first | omega | (simp; done) | (simp; omega))))))
    generalize S[p] = x at d k
    obtain ⟨xv, xo, xk, xr⟩ := x
    generalize bn = b11 at d ⊢
    simp only [ec] at d
    refine rw_st (S := S) (f := vc) d hp ⟨0, 0, 0, 0⟩ (.t _ _ _ (.t _ _ _ (.h _))) vc_len rfl (ones rfl) fun w d => ?_
    repeat (first | (simp +decide only [SEM]) | (apply ldm d; (focus ((repeat (first | exact .h _ | refine .t _ _ ?_)); done)); (focus rfl)) | (((repeat (refine bld_c rfl rfl (by simp) ?_; simp only [List.set_cons_zero, List.set_cons_succ])); refine bld_n ?_)))
    refine rw_st (S := S) (f := ec) d hp ⟨0, 0, 0, 0⟩ (.t _ _ _ (.t _ _ _ (.t _ _ _ (.t _ _ _ (.h _))))) ec_len rfl (ones rfl) fun w d => ?_
    repeat (first | (apply lam d; (focus ((repeat (first | exact .h _ | refine .t _ _ ?_)); done)); (focus rfl)) | (apply swm d; (focus ((repeat (first | exact .h _ | apply Rp.t)); done)); (focus rfl); (focus rfl); (focus exact ones rfl); intro w d; simp only [SPL] at d))
    have hlen : S.length = (S.set p ⟨0, 0, 0, 0⟩).length := by simp
    rw [hlen] at d
    exact k _ (Rt.mk (D.sel [0, 3, 1, 2, 4] d).tail.tail)
end
end Go.Proofs.Ytgcnebacjkpfmaa
