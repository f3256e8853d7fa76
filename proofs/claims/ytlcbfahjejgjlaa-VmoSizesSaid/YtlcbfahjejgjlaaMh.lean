/- Memory: pages of a range; committing; letting go. -/
import Derived.Test.YtlcbfahjejgjlaaMg
set_option maxRecDepth 100000
set_option maxHeartbeats 8000000
namespace Go.Proofs.Ytlcbfahjejgjlaa
open Go Go.Jac
/-- The pages of a range. -/
def pgN (a n : Int) : Nat := (if n = 0 then 0 else (a + n - 1) / 64 - a / 64 + 1).toNat
def pgL (a n : Int) : List Int := (List.range (pgN a n)).map fun (i : Nat) => a / 64 + (i : Int)
theorem pgL_len (a n : Int) : (pgL a n).length = pgN a n := by simp [pgL]
theorem pgL_nd (a n : Int) : (pgL a n).Nodup := by
  unfold pgL
  rw [List.nodup_iff_pairwise_ne, List.pairwise_map]
  exact (List.nodup_iff_pairwise_ne.1 List.nodup_range).imp fun h e => h (by omega)
theorem pgL_mem {a n : Int} (q : Int) : q ∈ pgL a n ↔ ∃ i : Nat, i < pgN a n ∧ q = a / 64 + i := by
  unfold pgL
  simp only [List.mem_map, List.mem_range]
  constructor
  · rintro ⟨i, h, rfl⟩; exact ⟨i, h, rfl⟩
  · rintro ⟨i, h, rfl⟩; exact ⟨i, h, rfl⟩
theorem pgL_get {a n : Int} {i : Nat} (h : i < (pgL a n).length) : (pgL a n)[i] = a / 64 + i := by
  have h1 : (pgL a n)[i]? = some (a / 64 + i) := by
    unfold pgL
    rw [List.getElem?_map, List.getElem?_range (by rwa [pgL_len] at h)]
    rfl
  rw [List.getElem?_eq_getElem h] at h1
  exact Option.some.inj h1
section
variable {w0 w : World} {L : List HP} {K : Value → WP} {b m pb o fb : Nat} {cap : Int} {F : List Fr} {pl : PL} {c0 c1 : Value} {cs ss : List Value} {pv : Value} {ps : List Int}
theorem len_rw {e es n : Nat} {sv : Value} {cs : List Value} (d : D w0 (Rw e es sv n cs :: L) w) (k : K (.int .i64 n) w) : LenS sv K w := by
  obtain ⟨p, c, rfl, -⟩ := Rw.shape d.1
  exact k
theorem touched_ok {a n : Int} (ha : 0 ≤ a ∧ a ≤ 100000000000000) (hn : 0 ≤ n ∧ n ≤ 1000000) (d : D w0 L w) (k : ∀ sv w', D w0 (Rw 3 1 sv (pgL a n).length ((pgL a n).flatMap nc) :: L) w' → K sv w') : Cl pg 30 #[.int .i64 a, .int .i64 n] K w := by
  refine V.vmo_touched_ok ?_
  unfold V.vmo_touched
  refine fn20 (fun _ _ => rfl) (Pages_ok (by omega) (by omega) ?_)
  repeat (simp +decide only [SEM])
  have hc : (if n = 0 then 0 else (a + n - 1) / 64 - a / 64 + 1) = (pgN a n : Int) := by
    unfold pgN
    split <;> omega
  have hcb : pgN a n ≤ 1000000 := by
    unfold pgN
    split <;> omega
  rw [hc]
  have d0 : D w0 (Rw 3 1 (.slice none 0 0) ((pgL a n).take 0).length (((pgL a n).take 0).flatMap nc) :: L) w := ⟨Rw.nil _ _ d.1, d.2⟩
  refine ⟨fun vs w' => ∃ (sv : Value) (i : Nat), vs = [sv, .int .i64 i] ∧ i ≤ pgN a n ∧ D w0 (Rw 3 1 sv ((pgL a n).take i).length (((pgL a n).take i).flatMap nc) :: L) w', fun vs _ => match vs with | [_, .int _ i] => pgN a n - i.toNat | _ => 0, ⟨_, 0, rfl, by omega, d0⟩, ?_⟩
  clear d0 d
  rintro _ w ⟨sv, i, rfl, hi, d⟩ _
  simp only [UN]
  repeat (simp +decide only [SEM])
  have hlen := pgL_len a n
  refine ⟨fun hlt => ?_, fun hge => ?_⟩
  · have hlt' : i < (pgL a n).length := by omega
    have htl : ((pgL a n).take i).length = i := by rw [List.length_take]; omega
    rw [w64 (n := a / 64 + i) (by omega) (by omega)]
    repeat (refine bsl1 (by first | rfl | (simp only [cells_agg, cells_int, cells_bool, cells_ptr, cells_sl, cells_map, cells_fn, List.drop_succ_cons, List.drop_zero, List.take_succ_cons, List.take_zero, Nat.zero_add, Nat.reduceAdd, Int.toNat_natCast, Int.toNat_zero]; rfl)) rfl d (by decide) (by decide) fun bn w d => ?_)
    refine d_app (m := 1) (D.sel [1] d) (src_of (gc1 (D.sel [1] d)) rfl (ones rfl) 1) rfl (by omega) (by rw [htl]; omega) (by rw [htl]; omega) (ones rfl) fun sv' w d => ?_
    repeat (simp +decide only [SEM])
    rw [w64 (by omega) (by omega)]
    refine ⟨⟨sv', i + 1, by simp, by omega, ?_⟩, by omega⟩
    rw [List.take_succ_eq_append_getElem hlt', pgL_get hlt', List.length_append, List.flatMap_append, List.flatMap_singleton]
    exact D.tail2 d
  · have e : (pgL a n).take i = pgL a n := List.take_of_length_le (by omega)
    rw [e] at d
    exact k sv w d
theorem release_ok {p : Int} (hk : Kn pl) (hu : ∀ f, look pl p = some f → 1 ≤ (fr F f).users ∧ (fr F f).users ≤ 1000000) (hF : F.length ≤ 65536)
    (d : D w0 (cel o 65 (c0 :: c1 :: .map (some fb) :: cs) :: Mp fb (fgM pl) pl.length :: Pl pb cap F :: cel b 60 (.pointer (some ⟨pb, 0, none⟩) :: ss) :: L) w)
    (k0 : look pl p = none → ∀ w', D w0 (cel o 65 (c0 :: c1 :: .map (some fb) :: cs) :: Mp fb (fgM pl) pl.length :: Pl pb cap F :: cel b 60 (.pointer (some ⟨pb, 0, none⟩) :: ss) :: L) w' → K (.tuple #[]) w')
    (k1 : ∀ f, look pl p = some f → ∀ w', D w0 (cel o 65 (c0 :: c1 :: .map (some fb) :: cs) :: Mp fb (fgM (delP pl p)) (delP pl p).length :: Pl pb cap (F.set f ⟨(fr F f).data, (fr F f).users - 1⟩) :: cel b 60 (.pointer (some ⟨pb, 0, none⟩) :: ss) :: L) w' → K (.tuple #[]) w') :
    Cl pg 36 #[.pointer (some ⟨b, 0, none⟩), .pointer (some ⟨o, 0, none⟩), .int .i64 p] K w := by
  refine V.vmo_Set_release_ok ?_
  unfold V.vmo_Set_release
  repeat (first | (simp +decide only [SEM]) | (apply ldm d; (focus ((repeat (first | exact .h _ | refine .t _ _ ?_)); done)); (focus rfl)))
  refine lkm_ok Try.underlying63 Try.underlying3 (z := .int .i64 0) (by kernel_rfl) d (.t _ _ (.h _)) ?_
  cases hl : look pl p with
  | none =>
    have e : fgM pl p = none := by unfold fgM; rw [hl]; rfl
    rw [e]
    simp only [Option.getD_none, Option.isSome_none]
    repeat (simp +decide only [SEM])
    exact k0 hl w d
  | some f =>
    have e : fgM pl p = some (.int .i64 (f : Int)) := by unfold fgM; rw [hl]; rfl
    rw [e]
    simp only [Option.getD_some, Option.isSome_some]
    repeat (first | (simp +decide only [SEM]) | (apply ldm d; (focus ((repeat (first | exact .h _ | refine .t _ _ ?_)); done)); (focus rfl)))
    have hb := hu f hl
    have hf := fr_lt (F := F) (i := f) (by omega)
    rw [fr_get hf] at hb
    refine fn20 (fun _ _ => rfl) (Release_ok hf (by omega) (by omega) hF (D.sel [2] d) fun w d => ?_)
    rw [← fr_get hf] at d
    repeat (first | (simp +decide only [SEM]) | (apply ldm d; (focus ((repeat (first | exact .h _ | refine .t _ _ ?_)); done)); (focus rfl)))
    refine mdelm_ok Try.underlying63 Try.underlying3 d (.t _ _ _ (.t _ _ _ (.h _))) fun w d => ?_
    rw [e] at d
    rw [← fgM_del] at d
    have hdl := (del_parts hk hl).1
    simp only [Option.isSome_some, if_true] at d
    rw [show pl.length - 1 = (delP pl p).length from by omega] at d
    skip
    exact k1 f hl w (D.sel [1, 2, 0] d)
theorem commit_ok {R : Nat → Nat} (hn : ps.Nodup) (hpl : ps.length ≤ 100000) (hu : UI R F pl) (hk : Kn pl) (ok : Pok cap F)
    (d : D w0 (cel o 65 (c0 :: c1 :: .map (some fb) :: cs) :: Mp fb (fgM pl) pl.length :: Pl pb cap F :: cel b 60 (.pointer (some ⟨pb, 0, none⟩) :: ss) :: Rw 3 1 pv ps.length (ps.flatMap nc) :: L) w)
    (k0 : cap < usedF F + needF (F, pl) ps → ∀ w', D w0 (cel o 65 (c0 :: c1 :: .map (some fb) :: cs) :: Mp fb (fgM pl) pl.length :: Pl pb cap F :: cel b 60 (.pointer (some ⟨pb, 0, none⟩) :: ss) :: Rw 3 1 pv ps.length (ps.flatMap nc) :: L) w' → K (.int .i64 (-4)) w')
    (k1 : (usedF F : Int) + needF (F, pl) ps ≤ cap → ∀ w', D w0 (cel o 65 (c0 :: c1 :: .map (some fb) :: cs) :: Mp fb (fgM (ps.foldl cm1 (F, pl)).2) (ps.foldl cm1 (F, pl)).2.length :: Pl pb cap (ps.foldl cm1 (F, pl)).1 :: cel b 60 (.pointer (some ⟨pb, 0, none⟩) :: ss) :: Rw 3 1 pv ps.length (ps.flatMap nc) :: L) w' → K (.int .i64 0) w') :
    Cl pg 29 #[.pointer (some ⟨b, 0, none⟩), .pointer (some ⟨o, 0, none⟩), pv] K w := by
  refine V.vmo_Set_commit_ok ?_
  unfold V.vmo_Set_commit
  have hmo := ok.mo
  have hln := ok.len
  have hule := usedF_le F
  refine len_rw (D.sel [4] d) ?_
  refine ⟨fun vs w' => ∃ (i : Nat), vs = [.int .i64 (needF (F, pl) (ps.take i)), .int .i64 i] ∧ i ≤ ps.length ∧ D w0 (cel o 65 (c0 :: c1 :: .map (some fb) :: cs) :: Mp fb (fgM pl) pl.length :: Pl pb cap F :: cel b 60 (.pointer (some ⟨pb, 0, none⟩) :: ss) :: Rw 3 1 pv ps.length (ps.flatMap nc) :: L) w', fun vs _ => match vs with | [_, .int _ i] => ps.length - i.toNat | _ => 0, ⟨0, rfl, by omega, d⟩, ?_⟩
  clear d
  rintro _ w ⟨i, rfl, hi, d⟩ _
  simp only [UN]
  have hnl : needF (F, pl) (ps.take i) ≤ i := Nat.le_trans List.countP_le_length (by rw [List.length_take]; omega)
  repeat (simp +decide only [SEM])
  refine ⟨fun hlt => ?_, fun hge => ?_⟩
  · have hlt' : i < ps.length := by omega
    refine rw_el1 (S := ps) (f := nc) d (.t _ _ (.t _ _ (.t _ _ (.t _ _ (.h _))))) nc_len hlt' (v := .int .i64 ps[i]) rfl ?_
    have e1 : needF (F, pl) (ps.take (i + 1)) = needF (F, pl) (ps.take i) + if needP F pl ps[i] then 1 else 0 := by
      unfold needF
      rw [List.take_succ_eq_append_getElem hlt', List.countP_append, List.countP_singleton]
    have hw1 : IntKind.i64.wrap ((i : Int) + 1) = i + 1 := w64 (by omega) (by omega)
    have hw2 : IntKind.i64.wrap ((needF (F, pl) (ps.take i) : Int) + 1) = needF (F, pl) (ps.take i) + 1 := w64 (by omega) (by omega)
    have next : ∀ w', D w0 (cel o 65 (c0 :: c1 :: .map (some fb) :: cs) :: Mp fb (fgM pl) pl.length :: Pl pb cap F :: cel b 60 (.pointer (some ⟨pb, 0, none⟩) :: ss) :: Rw 3 1 pv ps.length (ps.flatMap nc) :: L) w' →
        (∃ (i' : Nat), [Value.int .i64 (needF (F, pl) (ps.take (i + 1))), .int .i64 ((i : Int) + 1)] = [.int .i64 (needF (F, pl) (ps.take i')), .int .i64 i'] ∧ i' ≤ ps.length ∧ D w0 (cel o 65 (c0 :: c1 :: .map (some fb) :: cs) :: Mp fb (fgM pl) pl.length :: Pl pb cap F :: cel b 60 (.pointer (some ⟨pb, 0, none⟩) :: ss) :: Rw 3 1 pv ps.length (ps.flatMap nc) :: L) w') ∧ ps.length - ((i : Int) + 1).toNat < ps.length - (i : Int).toNat :=
      fun w' d' => ⟨⟨i + 1, by simp, by omega, d'⟩, by omega⟩
    rw [e1] at next
    generalize ps[i] = p at *
    repeat (first | (simp +decide only [SEM]) | (apply ldm d; (focus ((repeat (first | exact .h _ | refine .t _ _ ?_)); done)); (focus rfl)))
    refine lkm_ok Try.underlying63 Try.underlying3 (z := .int .i64 0) (by kernel_rfl) d (.t _ _ (.h _)) ?_
    cases hl : look pl p with
    | none =>
      have e : fgM pl p = none := by unfold fgM; rw [hl]; rfl
      have en : needP F pl p = true := by unfold needP; rw [hl]
      rw [en] at next
      rw [e]
      simp only [Option.getD_none, Option.isSome_none]
      repeat (simp +decide only [SEM])
      rw [hw1, hw2]
      simpa using next w d
    | some f =>
      have e : fgM pl p = some (.int .i64 (f : Int)) := by unfold fgM; rw [hl]; rfl
      rw [e]
      simp only [Option.getD_some, Option.isSome_some]
      repeat (first | (simp +decide only [SEM]) | (apply ldm d; (focus ((repeat (first | exact .h _ | refine .t _ _ ?_)); done)); (focus rfl)))
      have hb := hu.live hl
      have hf := fr_lt (F := F) (i := f) (by omega)
      refine fn20 (fun _ _ => rfl) (Users_ok hf (by rw [← fr_get hf]; omega) (D.sel [2] d) fun w d => ?_)
      rw [← fr_get hf]
      have d := D.sel [1, 2, 0] d
      repeat (simp +decide only [SEM])
      refine ⟨fun h1 => ?_, fun h1 => ?_⟩
      · have en : needP F pl p = true := by unfold needP; rw [hl]; exact decide_eq_true h1
        rw [en] at next
        rw [hw1, hw2]
        simpa using next w d
      · have en : needP F pl p = false := by unfold needP; rw [hl]; exact decide_eq_false h1
        rw [en] at next
        rw [hw1]
        simpa using next w d
  · have e : ps.take i = ps := List.take_of_length_le (by omega)
    rw [e] at hnl ⊢
    repeat (apply ldm d; (focus ((repeat (first | exact .h _ | refine .t _ _ ?_)); done)); (focus rfl))
    refine fn10 (fun _ _ => rfl) (Room_ok ok.mo (by omega) (D.sel [2] d) fun w d => ?_)
    have d := D.sel [1, 2, 0] d
    repeat (simp +decide only [SEM])
    refine ⟨fun h => k0 (by omega) w d, fun h => ?_⟩
    have hroom : (usedF F : Int) + needF (F, pl) ps ≤ cap := by omega
    have fin := k1 hroom
    clear k0 k1
    refine len_rw (D.sel [4] d) ?_
    refine ⟨fun vs w' => ∃ (i : Nat), vs = [.int .i64 i] ∧ i ≤ ps.length ∧ D w0 (cel o 65 (c0 :: c1 :: .map (some fb) :: cs) :: Mp fb (fgM ((ps.take i).foldl cm1 (F, pl)).2) ((ps.take i).foldl cm1 (F, pl)).2.length :: Pl pb cap ((ps.take i).foldl cm1 (F, pl)).1 :: cel b 60 (.pointer (some ⟨pb, 0, none⟩) :: ss) :: Rw 3 1 pv ps.length (ps.flatMap nc) :: L) w', fun vs _ => match vs with | [.int _ i] => ps.length - i.toNat | _ => 0, ⟨0, rfl, by omega, d⟩, ?_⟩
    clear d hge hi hnl e i
    rintro _ w ⟨i, rfl, hi, d⟩ _
    simp only [UN]
    repeat (simp +decide only [SEM])
    refine ⟨fun hlt => ?_, fun hge => ?_⟩
    · have hlt' : i < ps.length := by omega
      refine rw_el1 (S := ps) (f := nc) d (.t _ _ (.t _ _ (.t _ _ (.t _ _ (.h _))))) nc_len hlt' (v := .int .i64 ps[i]) rfl ?_
      have hw1 : IntKind.i64.wrap ((i : Int) + 1) = i + 1 := w64 (by omega) (by omega)
      have etk : ps.take (i + 1) = ps.take i ++ [ps[i]] := List.take_succ_eq_append_getElem hlt'
      have hnd1 : (ps.take (i + 1)).Nodup := hn.sublist (List.take_sublist _ _)
      have hpi : ps[i] ∉ ps.take i := by
        rw [etk, List.nodup_append] at hnd1
        exact fun h => hnd1.2.2 _ h _ (by simp) rfl
      have e2 : needF (F, pl) (ps.take (i + 1)) = needF (F, pl) (ps.take i) + if needP F pl ps[i] then 1 else 0 := by
        unfold needF
        rw [etk, List.countP_append, List.countP_singleton]
      have e3 : needF (F, pl) (ps.take (i + 1)) ≤ needF (F, pl) ps := (List.take_sublist _ _).countP_le
      have hntk : (ps.take i).Nodup := hn.sublist (List.take_sublist _ _)
      obtain ⟨q1, -, q3, -, q5, q6, -⟩ := cm_fold (R := R) (cap := cap) (ps.take i) (s := (F, pl)) hntk hu hk ok (by simp only; omega)
      have e4 : (ps.take (i + 1)).foldl cm1 (F, pl) = cm1 ((ps.take i).foldl cm1 (F, pl)) ps[i] := by rw [etk, List.foldl_append]; rfl
      have hneed : needP ((ps.take i).foldl cm1 (F, pl)).1 ((ps.take i).foldl cm1 (F, pl)).2 ps[i] = true → (usedF ((ps.take i).foldl cm1 (F, pl)).1 : Int) < cap := by
        intro h
        have : needP F pl ps[i] = true := by
          unfold needP at h ⊢
          rw [q5 _ hpi] at h
          cases hl : look pl ps[i] with
          | none => rfl
          | some f =>
            rw [hl] at h
            simp only [decide_eq_true_eq] at h ⊢
            have := q6 _ f hpi hl
            simp only at this
            omega
        rw [this] at e2
        simp only [if_true] at e2 q3
        omega
      have next : ∀ w', D w0 (cel o 65 (c0 :: c1 :: .map (some fb) :: cs) :: Mp fb (fgM ((ps.take (i + 1)).foldl cm1 (F, pl)).2) ((ps.take (i + 1)).foldl cm1 (F, pl)).2.length :: Pl pb cap ((ps.take (i + 1)).foldl cm1 (F, pl)).1 :: cel b 60 (.pointer (some ⟨pb, 0, none⟩) :: ss) :: Rw 3 1 pv ps.length (ps.flatMap nc) :: L) w' →
          (∃ (i' : Nat), [Value.int .i64 ((i : Int) + 1)] = [.int .i64 i'] ∧ i' ≤ ps.length ∧ D w0 (cel o 65 (c0 :: c1 :: .map (some fb) :: cs) :: Mp fb (fgM ((ps.take i').foldl cm1 (F, pl)).2) ((ps.take i').foldl cm1 (F, pl)).2.length :: Pl pb cap ((ps.take i').foldl cm1 (F, pl)).1 :: cel b 60 (.pointer (some ⟨pb, 0, none⟩) :: ss) :: Rw 3 1 pv ps.length (ps.flatMap nc) :: L) w') ∧ ps.length - ((i : Int) + 1).toNat < ps.length - (i : Int).toNat :=
        fun w' d' => ⟨⟨i + 1, by simp, by omega, d'⟩, by omega⟩
      rw [e4] at next
      have uiS := q1.ui
      have okS := q1.ok
      clear e2 e3 e4 q1 q3 q5 q6
      generalize (ps.take i).foldl cm1 (F, pl) = S at *
      generalize ps[i] = p at *
      obtain ⟨F1, pl1⟩ := S
      simp only at uiS okS hneed d
      have hup : ∀ g : Nat, (if (fgM pl1 p).isSome = true then pl1.length else pl1.length + 1) = (setP pl1 p g).length := fun g => (setP_len pl1 p g).symm
      repeat (first | (simp +decide only [SEM]) | (apply ldm d; (focus ((repeat (first | exact .h _ | refine .t _ _ ?_)); done)); (focus rfl)))
      refine lkm_ok Try.underlying63 Try.underlying3 (z := .int .i64 0) (by kernel_rfl) d (.t _ _ (.h _)) ?_
      cases hl : look pl1 p with
      | none =>
        have ec : cm1 (F1, pl1) p = (alF F1, setP pl1 p (gF F1)) := by unfold cm1; simp only [hl]
        rw [ec] at next
        have e : fgM pl1 p = none := by unfold fgM; rw [hl]; rfl
        rw [e]
        simp only [Option.getD_none, Option.isSome_none]
        repeat (first | (simp +decide only [SEM]) | (apply ldm d; (focus ((repeat (first | exact .h _ | refine .t _ _ ?_)); done)); (focus rfl)))
        refine fn10 (fun _ _ => rfl) (Alloc_ok okS (hneed (by unfold needP; rw [hl])) (D.sel [2] d) fun w d => ?_)
        repeat (first | (simp +decide only [SEM]) | (apply ldm d; (focus ((repeat (first | exact .h _ | refine .t _ _ ?_)); done)); (focus rfl)))
        refine mupm_ok Try.underlying63 Try.underlying3 d (.t _ _ _ (.t _ _ _ (.h _))) fun w d => ?_
        rw [hup (gF F1), ← fgM_set] at d
        repeat (simp +decide only [SEM])
        rw [hw1]
        exact next w (D.sel [1, 2, 0] d)
      | some f =>
        have e : fgM pl1 p = some (.int .i64 (f : Int)) := by unfold fgM; rw [hl]; rfl
        have hb := uiS.live hl
        rw [e]
        simp only [Option.getD_some, Option.isSome_some]
        repeat (first | (simp +decide only [SEM]) | (apply ldm d; (focus ((repeat (first | exact .h _ | refine .t _ _ ?_)); done)); (focus rfl)))
        by_cases h1 : 1 < (fr F1 f).users
        · have ec : cm1 (F1, pl1) p = (owF F1 f, setP pl1 p (gF F1)) := by unfold cm1; simp only [hl, if_pos h1]
          rw [ec] at next
          refine fn20 (fun _ _ => rfl) (Own_more okS h1 (hneed (by unfold needP; rw [hl]; exact decide_eq_true h1)) (D.sel [2] d) fun w d => ?_)
          repeat (first | (simp +decide only [SEM]) | (apply ldm d; (focus ((repeat (first | exact .h _ | refine .t _ _ ?_)); done)); (focus rfl)))
          refine mupm_ok Try.underlying63 Try.underlying3 d (.t _ _ _ (.t _ _ _ (.h _))) fun w d => ?_
          rw [hup (gF F1), ← fgM_set] at d
          repeat (simp +decide only [SEM])
          rw [hw1]
          exact next w (D.sel [1, 2, 0] d)
        · have ec : cm1 (F1, pl1) p = (F1, setP pl1 p f) := by unfold cm1; simp only [hl, if_neg h1]
          rw [ec] at next
          refine fn20 (fun _ _ => rfl) (Own_one (by omega) (D.sel [2] d) fun w d => ?_)
          repeat (first | (simp +decide only [SEM]) | (apply ldm d; (focus ((repeat (first | exact .h _ | refine .t _ _ ?_)); done)); (focus rfl)))
          refine mupm_ok Try.underlying63 Try.underlying3 d (.t _ _ _ (.t _ _ _ (.h _))) fun w d => ?_
          rw [hup f, ← fgM_set] at d
          repeat (simp +decide only [SEM])
          rw [hw1]
          exact next w (D.sel [1, 2, 0] d)
    · have e : ps.take i = ps := List.take_of_length_le (by omega)
      rw [e] at d
      exact fin w d
end
end Go.Proofs.Ytlcbfahjejgjlaa
