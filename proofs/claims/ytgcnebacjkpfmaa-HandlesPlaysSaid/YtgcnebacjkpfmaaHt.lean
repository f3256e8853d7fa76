/- Handles: the reference's table: one more; another one of the same object. -/
import Derived.Test.YtgcnebacjkpfmaaHs
set_option maxRecDepth 100000
set_option maxHeartbeats 4000000
namespace Go.Proofs.Ytgcnebacjkpfmaa
open Go Go.Jac
theorem GInv.set0 {S : List Slot} (h : GInv S) (p : Nat) : GInv (S.set p ⟨0, 0, 0, 0⟩) := by
  intro q x hx hv
  rw [List.getElem?_set] at hx
  split at hx
  · split at hx
    · cases hx; exact absurd rfl hv
    · cases hx
  · exact h q x hx hv
theorem GInv.ad {S : List Slot} (h : GInv S) (hl : fre S < 65536) {dr o k r : Int} : GInv (adS S ⟨hval (fre S) dr, o, k, r⟩) := by
  intro q x hx hv
  rw [adS_get] at hx
  split at hx
  · rename_i e
    obtain rfl := Option.some.inj hx
    subst e
    have e1 := hplc_hval (fre S : Int) dr (by omega) (by omega)
    simp only [e1]
  · exact h q x hx hv
theorem GInv.clo {S : List Slot} (h : GInv S) (v : Int) : GInv (clo S v) := by
  unfold Go.Proofs.Ytgcnebacjkpfmaa.clo
  split
  · exact h.set0 _
  · exact h
theorem GInv.cloN {S : List Slot} (h : GInv S) (l : List Int) : GInv (cloN S l) := by
  induction l generalizing S with
  | nil => exact h
  | cons v r ih => exact ih (h.clo v)
theorem fre_lt {cap : Int} {S : List Slot} (hS : TOk cap S) (hc : cnt S ≠ cap) : fre S < 65536 := by
  have hS1 := hS.1; have hS2 := hS.2; have hcl := cnt_le S; have hfl := fre_le S
  by_cases h : fre S < S.length
  · omega
  · have : ¬ cnt S < S.length := fun h' => h (fre_full h')
    omega
section
variable {w0 w : World} {L : List HP} {K : Value → WP} {c : Nat} {cap : Int} {S : List Slot} {sv se : Value}
theorem RAdd_full {e : Value} {dr : Int} {o kd r : Int} (he : e = .agg #[.int .i64 o, .int .i64 kd, .int .i64 r]) (hS : TOk cap S) (hc : cnt S = cap) (d : D w0 (Rt c cap S :: L) w) (k : ∀ w', D w0 (Rt c cap S :: L) w' → K (.tuple #[.int .i64 0, .int .i64 (-4)]) w') :
    Cl pg 38 #[.pointer (some ⟨c, 0, none⟩), e, .int .i64 dr] K w := by
  subst he
  refine V.jacinthref06_Table_Add_ok ?_
  unfold V.jacinthref06_Table_Add
  have hS1 := hS.1; have hS2 := hS.2
  obtain ⟨sv, se, d⟩ := Rt.out d
  obtain ⟨q, cq, rfl, -⟩ := Rw.shape d.swap.1
  refine d_new' [.int .i64 o, .int .i64 kd, .int .i64 r] rfl d fun be w d => ?_
  refine drw d fun w d => ?_
  refine qt d ?_
  repeat (first | refine qe_nil ?_ | (apply qlm; (focus ((repeat (first | exact .h _ | refine .t _ _ ?_)); done)); (focus rfl)))
  refine fn10 (fun _ _ => rfl) (RCount_ok (by omega) (D.sel [1, 2] d) fun w d => ?_)
  refine ch (D.sel [2, 0, 1] d) ?_
  repeat (simp +decide only [SEM])
  refine ⟨fun _ => k _ (Rt.mk (D.sel [2, 0, 1, 3] d).tail), fun h => by omega⟩
theorem RAdd_ok {e : Value} {dr : Int} {o kd r : Int} (he : e = .agg #[.int .i64 o, .int .i64 kd, .int .i64 r]) (hdr : I64 dr) (hS : TOk cap S) (hc : cnt S ≠ cap) (d : D w0 (Rt c cap S :: L) w) (k : ∀ w', D w0 (Rt c cap (adS S ⟨hval (fre S) dr, o, kd, r⟩) :: L) w' → K (.tuple #[.int .i64 (hval (fre S) dr), .int .i64 0]) w') :
    Cl pg 38 #[.pointer (some ⟨c, 0, none⟩), e, .int .i64 dr] K w := by
  subst he
  refine V.jacinthref06_Table_Add_ok ?_
  unfold V.jacinthref06_Table_Add
  have hS1 := hS.1; have hS2 := hS.2
  have hf6 := fre_lt hS hc
  have hfl := fre_le S
  have hcl := cnt_le S
  obtain ⟨sv, se, d⟩ := Rt.out d
  obtain ⟨q, cq, rfl, -⟩ := Rw.shape d.swap.1
  obtain ⟨q2, cq2, rfl, -⟩ := Rw.shape (d.pick 2).1
  refine d_new' [.int .i64 o, .int .i64 kd, .int .i64 r] rfl d fun be w d => ?_
  refine drw d fun w d => ?_
  refine qt d ?_
  repeat (first | refine qe_nil ?_ | (apply qlm; (focus ((repeat (first | exact .h _ | refine .t _ _ ?_)); done)); (focus rfl)))
  refine fn10 (fun _ _ => rfl) (RCount_ok (by omega) (D.sel [1, 2] d) fun w d => ?_)
  refine ch (D.sel [2, 0, 1] d) ?_
  repeat (simp +decide only [SEM])
  refine ⟨fun h => by omega, fun _ => ?_⟩
  have d : D w0 (cel c 61 [.slice q S.length cq, .slice q2 S.length cq2, .int .i64 cap] :: Rw 3 1 (.slice q S.length cq) S.length (S.flatMap vc) :: Rw 89 3 (.slice q2 S.length cq2) S.length (S.flatMap ec) :: cel be 89 [.int .i64 o, .int .i64 kd, .int .i64 r] :: L) w := D.sel [0, 1, 3, 2] d
  generalize hx : (⟨hval (fre S) dr, o, kd, r⟩ : Slot) = x at *
  have hxv : x.v = hval (fre S) dr := by rw [← hx]
  have hxe : ec x = [.int .i64 o, .int .i64 kd, .int .i64 r] := by rw [← hx]; rfl
  have hvl : hval (fre S) dr = dr % 65536 * 1048576 + (fre S : Int) * 4 + 3 := by unfold hval; rw [if_pos (by omega)]
  have hw4 : IntKind.i64.wrap (IntKind.i64.wrap (IntKind.i64.wrap (dr % 65536 * 1048576) + IntKind.i64.wrap (↑(fre S) * 4)) + 3) = hval (fre S) dr := by
    rw [w64 (n := dr % 65536 * 1048576) (by omega) (by omega), w64 (n := (fre S : Int) * 4) (by omega) (by omega), w64 (n := dr % 65536 * 1048576 + (fre S : Int) * 4) (by omega) (by omega), w64 (by omega) (by omega), hvl]
  refine ⟨fun vs w' => ∃ (i : Nat), vs = [.int .i64 i] ∧ i ≤ fre S ∧ D w0 (cel c 61 [.slice q S.length cq, .slice q2 S.length cq2, .int .i64 cap] :: Rw 3 1 (.slice q S.length cq) S.length (S.flatMap vc) :: Rw 89 3 (.slice q2 S.length cq2) S.length (S.flatMap ec) :: cel be 89 [.int .i64 o, .int .i64 kd, .int .i64 r] :: L) w', fun vs _ => match vs with | [.int _ i] => S.length - i.toNat | _ => 0, ⟨0, rfl, by omega, d⟩, ?_⟩
  clear d
  rintro _ w ⟨i, rfl, hi, d⟩ _
  simp only [UN]
  repeat (first | (simp +decide only [SEM]) | (apply ldm d; (focus ((repeat (first | exact .h _ | refine .t _ _ ?_)); done)); (focus rfl)))
  refine ⟨fun hlt => ?_, fun hge => ?_⟩
  · have hlt' : i < S.length := by omega
    have hfc := fre_cases hlt' hi
    have hw1 : IntKind.i64.wrap ((i : Int) + 1) = i + 1 := w64 (by omega) (by omega)
    repeat (first | (simp +decide only [SEM]) | (apply ldm d; (focus ((repeat (first | exact .h _ | refine .t _ _ ?_)); done)); (focus rfl)) | (focus (apply rw_el1 d; (focus ((repeat (first | exact .h _ | refine .t _ _ ?_)); done)); (focus exact fun _ => rfl); (focus rfl); rotate_left; (focus (first | omega | (simp; done) | (simp; omega))))))
    refine ⟨fun hz => ?_, fun hz => ?_⟩
    · rw [hw1]
      exact ⟨⟨i + 1, by simp, hfc.2 hz, d⟩, by omega⟩
    · have e := hfc.1 hz
      subst e
      have hset : adS S x = S.set (fre S) x := by unfold adS; rw [if_pos hlt']
      intro K' hK
      repeat (first | (simp +decide only [SEM]) | (apply ldm d; (focus ((repeat (first | exact .h _ | refine .t _ _ ?_)); done)); (focus rfl)))
      refine ⟨fun h => by omega, fun _ => ?_⟩
      refine hK _ _ ?_
      intro _
      refine drw d fun w d => ?_
      refine qt d ?_
      repeat (first | refine qe_nil ?_ | (apply qlm; (focus ((repeat (first | exact .h _ | refine .t _ _ ?_)); done)); (focus rfl)) | refine qe_op (fun _ _ => BinI_mul) ?_)
      refine fn10 (fun _ _ => rfl) (Mod_ok hdr ?_)
      repeat (first | (simp +decide only [SEM]) | refine ch d ?_)
      rw [hw4]
      refine rw_st (S := S) (f := vc) d hlt' x (.t _ _ _ (.h _)) vc_len (by show [Value.int .i64 (hval (fre S) dr)] = vc x; unfold vc; rw [hxv]) (ones rfl) fun w d => ?_
      repeat (first | refine drw d fun w d => ?_ | refine qt d ?_ | refine qe_nil ?_ | (apply qlm; (focus ((repeat (first | exact .h _ | refine .t _ _ ?_)); done)); (focus rfl)) | (apply qam; (focus ((repeat (first | exact .h _ | refine .t _ _ ?_)); done)); (focus rfl)))
      refine rw_st (S := S) (f := ec) d hlt' x (.t _ _ _ (.t _ _ _ (.h _))) ec_len (by rw [hxe]; rfl) (ones rfl) fun w d => ?_
      repeat (first | (simp +decide only [SEM]) | (apply ldm d; (focus ((repeat (first | exact .h _ | refine .t _ _ ?_)); done)); (focus rfl)) | (focus (apply rw_el1 d; (focus ((repeat (first | exact .h _ | refine .t _ _ ?_)); done)); (focus exact fun _ => rfl); (focus rfl); rotate_left; (focus (first | omega | (simp; done) | (simp; omega))))))
      rw [List.getElem_set_self, hxv]
      rw [hset] at k
      exact k _ (Rt.mk (D.sel [3, 0, 1, 2] d).tail)
  · have e : fre S = S.length := by omega
    have ei : i = S.length := by omega
    subst ei
    have hset : adS S x = (S ++ ([⟨0, 0, 0, 0⟩] : List Slot)).set (fre S) x := by
      unfold adS
      rw [if_neg (by omega), e, List.set_append_right _ _ (by omega)]
      simp
    intro K' hK
    repeat (first | (simp +decide only [SEM]) | (apply ldm d; (focus ((repeat (first | exact .h _ | refine .t _ _ ?_)); done)); (focus rfl)) | refine bsl1 (by first | rfl | (simp only [cells_agg, cells_int, cells_bool, cells_ptr, cells_sl, cells_map, cells_fn, List.drop_succ_cons, List.drop_zero, List.take_succ_cons, List.take_zero, Nat.zero_add, Nat.reduceAdd, Int.toNat_natCast, Int.toNat_zero]; rfl)) rfl d (by decide) (by decide) fun bn w d => ?_)
    refine d_app (m := 1) (D.sel [2] d) (src_of (gc1 (D.sel [2] d)) rfl (ones rfl) 1) rfl (by omega) (by omega) (by omega) (ones rfl) fun v1 w d => ?_
    obtain ⟨q3, cq3, rfl, -⟩ := Rw.shape d.1
    repeat (first | (simp +decide only [SEM]) | (apply ldm d; (focus ((repeat (first | exact .h _ | refine .t _ _ ?_)); done)); (focus rfl)) | (((repeat (refine bld_c rfl rfl (by simp) ?_; simp only [List.set_cons_zero, List.set_cons_succ])); refine bld_n ?_)) | refine bsl1 (by first | rfl | (simp only [cells_agg, cells_int, cells_bool, cells_ptr, cells_sl, cells_map, cells_fn, List.drop_succ_cons, List.drop_zero, List.take_succ_cons, List.take_zero, Nat.zero_add, Nat.reduceAdd, Int.toNat_natCast, Int.toNat_zero]; rfl)) rfl d (by decide) (by decide) fun bn w d => ?_ | (apply stm d; (focus ((repeat (first | exact .h _ | apply Rp.t)); done)); (focus rfl); (focus simp); (focus exact ones rfl); intro w d; simp only [SPL] at d))
    refine d_app (m := 1) (D.sel [4] d) (src_of (gc1 (D.sel [4] d)) rfl (ones rfl) 1) rfl (by omega) (by omega) (by omega) (ones rfl) fun v2 w d => ?_
    obtain ⟨q4, cq4, rfl, -⟩ := Rw.shape d.1
    repeat (first | (simp +decide only [SEM]) | (apply stm d; (focus ((repeat (first | exact .h _ | apply Rp.t)); done)); (focus rfl); (focus simp); (focus exact ones rfl); intro w d; simp only [SPL] at d))
    have d : D w0 (cel c 61 [.slice q3 (S.length + 1) cq3, .slice q4 (S.length + 1) cq4, .int .i64 cap] :: Rw 3 1 (.slice q3 (S.length + 1) cq3) (S ++ ([⟨0, 0, 0, 0⟩] : List Slot)).length ((S ++ ([⟨0, 0, 0, 0⟩] : List Slot)).flatMap vc) :: Rw 89 3 (.slice q4 (S.length + 1) cq4) (S ++ ([⟨0, 0, 0, 0⟩] : List Slot)).length ((S ++ ([⟨0, 0, 0, 0⟩] : List Slot)).flatMap ec) :: cel be 89 [.int .i64 o, .int .i64 kd, .int .i64 r] :: L) w := by
      rw [List.length_append, List.flatMap_append, List.flatMap_append]
      exact (D.sel [1, 3, 4, 2, 0, 5] d).tail.tail
    have hl2 : fre S < (S ++ ([⟨0, 0, 0, 0⟩] : List Slot)).length := by rw [List.length_append]; simp; omega
    generalize (S ++ ([⟨0, 0, 0, 0⟩] : List Slot)) = S' at d hset hl2
    rw [e] at hset hl2 hw4 hxv k
    refine hK _ _ ?_
    intro _
    refine drw d fun w d => ?_
    refine qt d ?_
    repeat (first | refine qe_nil ?_ | (apply qlm; (focus ((repeat (first | exact .h _ | refine .t _ _ ?_)); done)); (focus rfl)) | refine qe_op (fun _ _ => BinI_mul) ?_)
    refine fn10 (fun _ _ => rfl) (Mod_ok hdr ?_)
    repeat (first | (simp +decide only [SEM]) | refine ch d ?_)
    rw [hw4]
    refine rw_st (S := S') (f := vc) d hl2 x (.t _ _ _ (.h _)) vc_len (by show [Value.int .i64 (hval S.length dr)] = vc x; unfold vc; rw [hxv]) (ones rfl) fun w d => ?_
    repeat (first | refine drw d fun w d => ?_ | refine qt d ?_ | refine qe_nil ?_ | (apply qlm; (focus ((repeat (first | exact .h _ | refine .t _ _ ?_)); done)); (focus rfl)) | (apply qam; (focus ((repeat (first | exact .h _ | refine .t _ _ ?_)); done)); (focus rfl)))
    refine rw_st (S := S') (f := ec) d hl2 x (.t _ _ _ (.t _ _ _ (.h _))) ec_len (by rw [hxe]; rfl) (ones rfl) fun w d => ?_
    repeat (first | (simp +decide only [SEM]) | (apply ldm d; (focus ((repeat (first | exact .h _ | refine .t _ _ ?_)); done)); (focus rfl)) | (focus (apply rw_el1 d; (focus ((repeat (first | exact .h _ | refine .t _ _ ?_)); done)); (focus exact fun _ => rfl); (focus rfl); rotate_left; (focus (first | omega | (simp; done) | (simp; omega))))))
    rw [List.getElem_set_self, hxv]
    rw [hset] at k
    exact k _ (Rt.mk (D.sel [3, 0, 1, 2] d).tail)
end
end Go.Proofs.Ytgcnebacjkpfmaa
