/- Regions: what is mapped, told by pages; Protect. -/
import Derived.Test.YtplllehpaimpiaaGj
set_option maxRecDepth 100000
set_option maxHeartbeats 8000000
namespace Go.Proofs.Ytplllehpaimpiaa
open Go Go.Jac
section
variable {size most : Int} {S P : List Pc} {x y : Pc} {t m at_ p : Int} {c c' : Int × Int × Int}
theorem has_one (h : Rok size most S) (h1 : Has S t c) (h2 : Has S t c') : c = c' := by
  obtain ⟨x, hx, hc, rfl⟩ := h1
  obtain ⟨y, hy, hc', rfl⟩ := h2
  rw [cov_one h hx hy hc hc']
theorem has_ins : Has (insP S x) t c ↔ (cov x t ∧ vals x = c) ∨ Has S t c := by
  unfold Has
  constructor
  · rintro ⟨y, hy, h⟩
    rcases ins_mem.1 hy with rfl | hy
    · exact .inl h
    · exact .inr ⟨y, hy, h⟩
  · rintro (h | ⟨y, hy, h⟩)
    · exact ⟨x, ins_mem.2 (.inl rfl), h⟩
    · exact ⟨y, ins_mem.2 (.inr hy), h⟩
theorem has_out (h : Rok size most S) (hm : 0 ≤ at_ ∧ 0 < m) : Has (S.flatMap (outP at_ m)) t c ↔ Has S t c ∧ ¬ (at_ ≤ t ∧ t < at_ + m) := by
  have key : Has (S.flatMap (outP at_ m)) t c → ¬ (at_ ≤ t ∧ t < at_ + m) := by
    rintro ⟨y, hy, hc, _⟩
    obtain ⟨x, hx, hy⟩ := List.mem_flatMap.1 hy
    have := outP_in ⟨(h.all x hx).a0, (h.all x hx).n0⟩ hm y hy
    unfold cov at hc
    omega
  constructor
  · exact fun h1 => ⟨(has_cut h hm c).1 (.inl h1), key h1⟩
  · rintro ⟨h1, h2⟩
    rcases (has_cut h hm c).2 h1 with h3 | ⟨y, hy, hc, _⟩
    · exact h3
    · obtain ⟨x, hx, hy⟩ := List.mem_flatMap.1 hy
      have := inP_in ⟨(h.all x hx).a0, (h.all x hx).n0⟩ hm y hy
      unfold cov at hc
      exact absurd ⟨by omega, by omega⟩ h2
theorem has_in (h : Rok size most S) (hm : 0 ≤ at_ ∧ 0 < m) : Has (S.flatMap (inP at_ m)) t c ↔ Has S t c ∧ (at_ ≤ t ∧ t < at_ + m) := by
  have key : Has (S.flatMap (inP at_ m)) t c → at_ ≤ t ∧ t < at_ + m := by
    rintro ⟨y, hy, hc, _⟩
    obtain ⟨x, hx, hy⟩ := List.mem_flatMap.1 hy
    have := inP_in ⟨(h.all x hx).a0, (h.all x hx).n0⟩ hm y hy
    unfold cov at hc
    omega
  constructor
  · exact fun h1 => ⟨(has_cut h hm c).1 (.inr h1), key h1⟩
  · rintro ⟨h1, h2⟩
    rcases (has_cut h hm c).2 h1 with h3 | h3
    · exact absurd h2 ((has_out h hm).1 h3).2
    · exact h3
theorem has_prot (h : Rok size most S) (hm : 0 ≤ at_ ∧ 0 < m) (hP : P.Perm (S.flatMap (outP at_ m) ++ (S.flatMap (inP at_ m)).map (setp p))) : Has P t c ↔ (Has S t c ∧ ¬ (at_ ≤ t ∧ t < at_ + m)) ∨ ∃ c', (Has S t c' ∧ (at_ ≤ t ∧ t < at_ + m)) ∧ c = (c'.1, p, c'.2.2) := by
  rw [← has_out h hm]
  constructor
  · rintro ⟨y, hy, hc, hv⟩
    rcases List.mem_append.1 (hP.mem_iff.1 hy) with h1 | h1
    · exact .inl ⟨y, h1, hc, hv⟩
    · obtain ⟨z, hz, rfl⟩ := List.mem_map.1 h1
      exact .inr ⟨vals z, (has_in h hm).1 ⟨z, hz, hc, rfl⟩, hv.symm⟩
  · rintro (⟨y, hy, hc, hv⟩ | ⟨c', h1, rfl⟩)
    · exact ⟨y, hP.mem_iff.2 (List.mem_append_left _ hy), hc, hv⟩
    · obtain ⟨z, hz, hc, rfl⟩ := (has_in h hm).2 h1
      exact ⟨setp p z, hP.mem_iff.2 (List.mem_append_right _ (List.mem_map.2 ⟨z, hz, rfl⟩)), hc, rfl⟩
end
section
variable {w0 w : World} {L : List HP} {K : Value → WP} {b n : Nat} {size most : Int} {sv lv v : Value} {x : Pc} {S H : List Pc}
/-- A row behind a row, it may be empty. -/
theorem d_appm {elem es bytes m : Nat} {zero : Array Value} {x : Value} {cs news : List Value} (d : D w0 (Rw elem es sv n cs :: L) w) (hx : SrcV es x m news w) (hz : zero.size = es) (hb : (n + m) * bytes ≤ 140737488355328) (h63 : n + m < 4611686018427387904)
    (hx2 : ∀ v ∈ news, v.oneCell' = true)
    (k : ∀ sv' w', D w0 (Rw elem es sv' (n + m) (cs ++ news) :: L) w' → K sv' w') : AppC elem es bytes zero sv x K w := by
  rcases Nat.eq_zero_or_pos m with h0 | h0
  · subst h0
    have hc0 : news = [] := by
      have hl : news.length = 0 * es := by
        rcases hx with ⟨a, c', h, hl, _⟩ | ⟨c', h, hn, hc⟩
        · exact hl
        · simp [hc]
      exact List.length_eq_zero_iff.1 (by simpa using hl)
    subst hc0
    obtain ⟨q, c, rfl, hle⟩ := Rw.shape d.1
    exact ⟨_, _, _, 0, [], rfl, hx, .inl ⟨rfl, hle, k _ _ (by simpa using d)⟩⟩
  · exact d_app d hx hz h0 hb h63 hx2 k
theorem Protect_ok {at_ m p : Int} (hI : I64 at_ ∧ I64 m ∧ I64 p) (d : D w0 (Rg b size most S :: L) w)
    (k1 : ∀ s : Int, s ≠ 0 → ∀ w', D w0 (Rg b size most S :: L) w' → K (.int .i64 s) w')
    (k2 : chkSt size at_ m = 0 → (0 ≤ p ∧ p ≤ 3) → ∀ (P : List Pc) w', P.Perm (S.flatMap (outP at_ m) ++ (S.flatMap (inP at_ m)).map (setp p)) → D w0 (Rg b size most P :: L) w' → K (.int .i64 0) w') :
    Cl pg 13 #[.pointer (some ⟨b, 0, none⟩), .int .i64 at_, .int .i64 m, .int .i64 p] K w := by
  refine V.region_Region_Protect_ok ?_
  unfold V.region_Region_Protect
  refine fn10 (fun _ _ => rfl) (wrong_ok ?_)
  repeat (simp +decide only [SEM])
  refine ⟨fun h => k1 _ (by decide) w d, fun hp => ?_⟩
  refine fn30 (fun _ _ => rfl) (check_ok d fun w d => ?_)
  repeat (simp +decide only [SEM])
  refine ⟨fun h1 => k1 _ h1 w d, fun h1 => ?_⟩
  have h1 : chkSt size at_ m = 0 := by simpa using h1
  have hc := chk0 h1
  have hm2 : 0 ≤ at_ ∧ 0 < m := ⟨by omega, by omega⟩
  have ok := Rg.facts d
  have hsz := ok.sz
  have hmo := ok.mo
  have hlen := ok.len
  refine fn30 (fun _ _ => rfl) (split_ok ⟨by omega, by omega, by omega⟩ d fun ov iv w d => ?_)
  have hIl := ins_len at_ m S
  have hOl := outs_len at_ m S
  have hsb : ∀ i, i ≤ (S.flatMap (inP at_ m)).length → 0 ≤ sumN ((S.flatMap (inP at_ m)).take i) ∧ sumN ((S.flatMap (inP at_ m)).take i) ≤ (i : Int) * 4294967296 := by
    intro i
    induction i with
    | zero => intro _; simp [sumN]
    | succ i ih =>
      intro hi
      have h3 := ih (by omega)
      rw [List.take_succ_eq_append_getElem (by omega), sumN_app]
      obtain ⟨x, hx, hy⟩ := List.mem_flatMap.1 (List.getElem_mem (show i < (S.flatMap (inP at_ m)).length by omega))
      have h4 := in_pok (ok.all x hx) ⟨hc.1, hc.2.1, hm2.1, hm2.2⟩ _ hy
      have h5 := h4.n0
      have h6 := h4.en
      have h7 := h4.a0
      have e : ((i + 1 : Nat) : Int) * 4294967296 = (i : Int) * 4294967296 + 4294967296 := by omega
      rw [e]
      simp only [sumN, List.map_cons, List.map_nil, List.sum_cons, List.sum_nil] at *
      omega
  generalize hgI : S.flatMap (inP at_ m) = I at *
  generalize hgO : S.flatMap (outP at_ m) = O at *
  obtain ⟨q1, c1, rfl, -⟩ := Rw.shape d.1
  obtain ⟨q2, c2, rfl, -⟩ := Rw.shape d.swap.1
  repeat (simp +decide only [SEM])
  have e0 : I = (I.take 0).map (setp p) ++ I.drop 0 := by simp
  refine ⟨fun vs w' => ∃ (i : Nat), vs = [.int .i64 (sumN (I.take i)), .int .i64 i] ∧ i ≤ I.length ∧ D w0 (Rw 27 5 (.slice q2 I.length c2) ((I.take i).map (setp p) ++ I.drop i).length (((I.take i).map (setp p) ++ I.drop i).flatMap pc) :: Rw 27 5 (.slice q1 O.length c1) O.length (O.flatMap pc) :: Rg b size most S :: L) w', fun vs _ => match vs with | [_, .int _ i] => I.length - i.toNat | _ => 0, ⟨0, rfl, by omega, ?_⟩, ?_⟩
  · rw [← e0]
    exact d.swap
  clear d
  rintro _ w ⟨i, rfl, hi, d⟩ _
  simp only [UN]
  repeat (simp +decide only [SEM])
  refine ⟨fun hlt => ?_, fun hge => ?_⟩
  · have hlt' : i < I.length := by omega
    have hg : ∀ h, ((I.take i).map (setp p) ++ I.drop i)[i]'h = I[i] := fun h => by
      rw [List.getElem_append_right (by simp; omega)]
      simp [List.length_take, Nat.min_eq_left (Nat.le_of_lt hlt')]
    have hll : ((I.take i).map (setp p) ++ I.drop i).length = I.length := by simp; omega
    have hs1 := hsb i (by omega)
    have hs3 := hsb (i + 1) (by omega)
    have hs2 : sumN (I.take (i + 1)) = sumN (I.take i) + I[i].n := by rw [List.take_succ_eq_append_getElem hlt', sumN_app]; simp [sumN]
    refine rw_fld (n := i) (j := 1) (v := .int .i64 I[i].n) d (.h _) pc_len (by omega) (by rw [hg]; rfl) ?_
    repeat (simp +decide only [SEM])
    refine rw_stf (S := (I.take i).map (setp p) ++ I.drop i) (f := pc) (o := 4) (m := 1) (v := .int .i64 p) d (by omega) (setp p I[i]) (.h _) pc_len rfl (by omega) (ones rfl) (by rw [hg]; rfl) fun w d => ?_
    repeat (simp +decide only [SEM])
    rw [w64 (by omega) (by omega), w64 (by omega) (by omega)]
    refine ⟨⟨i + 1, by rw [hs2]; simp, by omega, ?_⟩, by omega⟩
    have e : ((I.take i).map (setp p) ++ I.drop i).set i (setp p I[i]) = (I.take (i + 1)).map (setp p) ++ I.drop (i + 1) := by
      rw [List.set_append_right _ _ (by simp; omega), List.take_succ_eq_append_getElem hlt', List.map_append]
      simp [List.length_take, Nat.min_eq_left (Nat.le_of_lt hlt')]
      rw [List.drop_eq_getElem_cons hlt']
      rfl
    rw [e] at d
    exact d
  · have hi' : i = I.length := by omega
    subst hi'
    rw [List.take_length, List.drop_length, List.append_nil, List.length_map] at d
    have hs1 := hsb I.length (Nat.le_refl _)
    rw [List.take_length] at hs1 ⊢
    skip
    refine ⟨fun h => k1 _ (by decide) w d.tail.tail, fun _ => ?_⟩
    obtain ⟨-, v, d⟩ := Rg.out (D.sel [2, 0, 1] d)
    repeat (first | (simp +decide only [SEM]) | (apply ldm d; (focus ((repeat (first | exact .h _ | refine .t _ _ ?_)); done)); (focus rfl)))
    rw [w64 (by omega) (by omega)]
    refine ⟨fun h => k1 _ (by decide) w (D.sel [1, 2, 0] (Rg.mk ok d)).tail.tail, fun hroom => ?_⟩
    have d := D.sel [3, 2, 0, 1] d
    obtain ⟨J, hJ⟩ : ∃ J, J = I.map (setp p) := ⟨_, rfl⟩
    have hJl : J.length = I.length := by rw [hJ, List.length_map]
    rw [← hJ, ← hJl] at d
    rw [← hJl]
    refine d_appm (m := J.length) (news := J.flatMap pc) d (src_rw d.tail pcs_one) rfl (by omega) (by omega) pcs_one fun v' w d => ?_
    rw [← List.flatMap_append, ← List.length_append] at d
    refine fn10 (fun _ _ => rfl) (V.slices_Values_Piece_Piece_ok ?_)
    unfold V.slices_Values_Piece_Piece
    obtain ⟨q5, c5, rfl, -⟩ := Rw.shape d.1
    simp only [cells_sl]
    refine d_new _ d fun bn w d => ?_
    generalize bn = bv at d ⊢
    refine fn20 (fun _ _ => rfl) (V.slices_SortedFunc_Piece_ok ?_)
    unfold V.slices_SortedFunc_Piece
    refine fn10 (fun _ _ => rfl) (V.slices_Collect_Piece_ok ?_)
    unfold V.slices_Collect_Piece
    refine fn20 (fun _ _ => rfl) (AppSeqP_ok (by rw [List.length_append]; omega) d fun lv w d => ?_)
    refine fn20 (fun _ _ => rfl) (SortP_ok (by rw [List.length_append]; omega) d fun P w hp hs d => ?_)
    rw [hJ, ← hgO, ← hgI] at hp
    obtain ⟨q6, c6, rfl, -⟩ := Rw.shape d.1
    repeat (first | (simp +decide only [SEM]) | (apply stm d; (focus ((repeat (first | exact .h _ | apply Rp.t)); done)); (focus rfl); (focus simp); (focus exact ones rfl); intro w d; simp only [SPL] at d))
    refine k2 h1 (by omega) P w (by rw [← hgO, ← hgI]; exact hp) ?_
    exact (D.sel [1, 2, 0] (Rg.mk (prot_rok ok ⟨hc.1, hc.2.1, hm2.1, hm2.2⟩ (by omega) (by rw [hgO, hgI]; omega) hp hs) (D.sel [2, 0] d))).tail.tail
end
end Go.Proofs.Ytplllehpaimpiaa
