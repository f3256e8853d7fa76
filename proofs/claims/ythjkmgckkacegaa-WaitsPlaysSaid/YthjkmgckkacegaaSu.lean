/- slices.DeleteFunc over a row of records. -/
import Derived.Test.YthjkmgckkacegaaSl
set_option maxRecDepth 100000
namespace Go.Jac
open Go
section
variable {P : Program} {w0 w : World} {L : List HP} {K : Value → WP} {elem es : Nat} {sv y : Value} {zero : Array Value}
variable {α : Type} {f : α → List Value} {p : α → Bool} {S : List α}
def GDelF (P : Program) (n : Nat) (elem es : Nat) (zero : Array Value) (a0 a1 : Value) (KR : Value → WP) : WP :=
  FnV P (.func (.func n) #[] #[]) #[a0, a1] fun v10 =>
  BinI .eql v10 (.int .i64 (-1)) fun v12 =>
  Cnd v12 (KR a0)
  (BinI .add v10 (.int .i64 1) fun v15 =>
  LoopC [v10, v15] fun vK vs => AllE <|
  UN vs fun v5 vs =>
  UN vs fun v6 _ =>
  LenS a0 fun v18 =>
  BinI .lss v6 v18 fun v19 =>
  Cnd v19 (IA es a0 v6 fun v24 =>
  LdN es v24 fun v25 =>
  New elem zero fun v7 =>
  St es v7 v25 fun _ =>
  LdN es v7 fun v27 =>
  FnV P a1 #[v27] fun v28 =>
  Un .not v28 fun v29 =>
  Cnd v29 (LdN es v7 fun v32 =>
  IA es a0 v5 fun v33 =>
  St es v33 v32 fun _ =>
  BinI .add v5 (.int .i64 1) fun v35 =>
  BinI .add v6 (.int .i64 1) fun v21 =>
  vK [v35, v21])
  (BinI .add v6 (.int .i64 1) fun v21_1 =>
  vK [v5, v21_1]))
  (SlC es a0 (some v5) none fun v38 =>
  Ex P (clrS zero v38) fun _ =>
  SlC es a0 none (some v5) fun v41 =>
  KR v41))
theorem fidx_none (h : fidx p S = -1) : S.filter (fun x => !p x) = S := by
  unfold fidx at h
  split at h
  · omega
  · rename_i hf
    refine List.filter_eq_self.2 fun x hx => ?_
    have h1 : S.findIdx p = S.length := Nat.le_antisymm List.findIdx_le_length (by omega)
    have := (List.findIdx_eq_length.1 h1) x hx
    simp [this]
theorem filter_take_none {i : Nat} (h : ∀ j (hj : j < S.length), j < i → p S[j] = false) : (S.take i).filter (fun x => !p x) = S.take i := by
  refine List.filter_eq_self.2 fun x hx => ?_
  obtain ⟨j, hj, rfl⟩ := List.getElem_of_mem hx
  rw [List.length_take] at hj
  rw [List.getElem_take, h j (by omega) (by omega)]; rfl
theorem gdelf_ok {n : Nat} (hf : ∀ x, (f x).length = es) (h1 : ∀ x ∈ S, ∀ u ∈ f x, u.oneCell' = true) (hz : zero.size = es) (hz1 : ∀ u ∈ zero.toList, u.oneCell' = true) (hS : S.length ≤ 4294967296)
    (d : D w0 (Rw elem es sv S.length (S.flatMap f) :: L) w)
    (hix : ∀ (w : World) (K : Value → WP), D w0 (Rw elem es sv S.length (S.flatMap f) :: L) w → (∀ w', D w0 (Rw elem es sv S.length (S.flatMap f) :: L) w' → K (.int .i64 (fidx p S)) w') → FnV P (.func (.func n) #[] #[]) #[sv, y] K w)
    (hy : ∀ (A B : HP) (x : α) (w : World) (K : Value → WP), x ∈ S → D w0 (A :: B :: L) w → (∀ w', D w0 (A :: B :: L) w' → K (.bool (p x)) w') → FnV P y #[.agg (f x).toArray] K w)
    (k : ∀ sv' w', D w0 (Rw elem es sv' (S.filter fun x => !p x).length ((S.filter fun x => !p x).flatMap f) :: L) w' → K sv' w') : GDelF P n elem es zero sv y K w := by
  unfold GDelF
  refine hix _ _ d fun w d => ?_
  simp only [SEM]
  refine ⟨fun h => ?_, fun h => ?_⟩
  · have := k sv w
    rw [fidx_none h] at this
    exact this d
  obtain ⟨i0, hi0, hle0, he0, hb0⟩ : ∃ i0 : Nat, ∃ h : i0 < S.length, p S[i0] = true ∧ fidx p S = i0 ∧ ∀ j (hj : j < S.length), j < i0 → p S[j] = false := by
    unfold fidx at h ⊢
    split at h
    · rename_i hlt
      refine ⟨S.findIdx p, hlt, List.findIdx_getElem (w := hlt), by rw [if_pos hlt], fun j hj hji => by simpa using List.not_of_lt_findIdx hji⟩
    · omega
  rw [he0, w64 (by omega) (by omega)]
  obtain ⟨b, cap, junk0, rfl, hcap, hl2, -⟩ := Rw.block d.1 (by omega)
  refine ⟨fun vs w' => ∃ (i j : Nat) (T : List α), vs = [.int .i64 i, .int .i64 j] ∧ i < j ∧ j ≤ S.length ∧ T.length = S.length ∧ T.take i = (S.take j).filter (fun x => !p x) ∧ T.drop j = S.drop j ∧ D w0 (Rw elem es (.slice (some ⟨b, 0, none⟩) S.length cap) T.length (T.flatMap f) :: L) w', fun vs _ => match vs with | [_, .int _ j] => S.length - j.toNat | _ => 0, ⟨i0, i0 + 1, S, rfl, by omega, by omega, rfl, ?_, rfl, d⟩, ?_⟩
  · rw [List.take_succ_eq_append_getElem hi0, List.filter_append, filter_take_none hb0]
    simp [hle0]
  clear d
  rintro _ w ⟨i, j, T, rfl, hij, hj, hT, ht1, ht2, d⟩ _
  simp only [UN]
  simp only [SEM]
  refine ⟨fun hlt => ?_, fun hge => ?_⟩
  · have hlt' : j < T.length := by omega
    have hTj : T[j] = S[j]'(by omega) := by
      have e1 : (T.drop j)[0]? = (S.drop j)[0]? := by rw [ht2]
      rw [List.getElem?_drop, List.getElem?_drop, Nat.add_zero, List.getElem?_eq_getElem hlt', List.getElem?_eq_getElem (by omega)] at e1
      exact Option.some.inj e1
    obtain ⟨b1, cap1, cs, e, g, hc⟩ := rec_at hf d (i := (j : Int)) (by omega) (by omega)
    rw [hT] at e
    cases e
    refine ia_ok (by omega) (by omega) ?_
    refine hldN _ _ T[j] _ _ _ _ hf g (fun q x hx => by rw [Nat.zero_add]; exact hc q x hx) ?_
    rw [hTj]
    have hmem : S[j]'(by omega) ∈ S := List.getElem_mem _
    refine d_new' (t := elem) zero.toList (by simp) d fun bn w d => ?_
    refine d_st d (by rw [cells_agg, List.size_toArray, hf]) (by rw [Nat.zero_add, Array.length_toList, hz]; exact Nat.le_refl _) (by rw [cells_agg]; exact h1 _ hmem) fun w d => ?_
    rw [cells_agg, splice_whole (by simp [hf, hz])] at d
    refine ldN d.get (f S[j]) (hf _) (fun q x hx => by rw [Nat.zero_add]; exact hx) ?_
    refine hy _ _ _ _ _ hmem d fun w d => ?_
    simp only [SEM]
    refine ⟨fun hp => ?_, fun hp => ?_⟩
    · refine ldN d.get (f S[j]) (hf _) (fun q x hx => by rw [Nat.zero_add]; exact hx) ?_
      refine rw_st (S := T) (f := f) (n := i) d.tail (by omega) (S[j]'(by omega)) (.h _) hf (by rw [cells_agg]) (h1 _ hmem) fun w d => ?_
      simp only [SEM]
      rw [w64 (by omega) (by omega), w64 (by omega) (by omega)]
      refine ⟨⟨i + 1, j + 1, T.set i S[j], by simp, by omega, by omega, by simp [hT], ?_, ?_, d⟩, by show S.length - ((j : Int) + 1).toNat < S.length - (j : Int).toNat; omega⟩
      · rw [List.take_succ_eq_append_getElem (by simp; omega), List.take_set_of_le (Nat.le_refl _), ht1, List.take_succ_eq_append_getElem (i := j) (by omega), List.filter_append]
        simp [hp]
      · rw [List.drop_set_of_lt (by omega), ← List.drop_drop, ← List.drop_drop, ht2]
    · rw [w64 (by omega) (by omega)]
      refine ⟨⟨i, j + 1, T, by simp, by omega, by omega, hT, ?_, ?_, d.tail⟩, by show S.length - ((j : Int) + 1).toNat < S.length - (j : Int).toNat; omega⟩
      · rw [ht1, List.take_succ_eq_append_getElem (i := j) (by omega), List.filter_append]
        simp [hp]
      · rw [← List.drop_drop, ← List.drop_drop, ht2]
  · have hj' : j = S.length := by omega
    subst hj'
    rw [List.take_length] at ht1
    obtain ⟨b1, cap1, junk, e, hcap1, hl3, s⟩ := Rw.block d.1 (by omega)
    rw [hT] at e
    cases e
    have d1 : D w0 (cel b elem (T.flatMap f ++ junk) :: L) w := ⟨s, d.2⟩
    refine slc_ok i S.length rfl ⟨_, rfl, by omega⟩ rfl ?_
    rw [if_neg (by omega)]
    simp only [Option.map_some, add_of, Nat.zero_add]
    have hm : (S.length - i) * es + i * es = S.length * es := by rw [← Nat.add_mul]; congr 1; omega
    have hce : S.length * es ≤ cap * es := Nat.mul_le_mul_right _ hcap
    refine clr_ok d1 (by omega) hz1 (by rw [hl3, hz]; omega) fun w d2 => ?_
    refine slc_ok 0 i ⟨_, rfl, by omega⟩ rfl rfl ?_
    have e0 : (if cap = 0 then (some ⟨b, 0, none⟩ : Option Addr) else (some ⟨b, 0, none⟩ : Option Addr).map (·.add (0 * es))) = some ⟨b, 0, none⟩ := by
      split
      · rfl
      · simp [add_of]
    rw [e0, Nat.sub_zero, Nat.sub_zero]
    have hlen : (S.filter fun x => !p x).length = i := by rw [← ht1, List.length_take]; omega
    have hzl : ((Builtin.zeroCells zero (S.length - i)).toList).length = (S.length - i) * es := by rw [zeros_len, hz]
    have hti : ((T.take i).flatMap f).length = i * es := by rw [flat_len hf, List.length_take]; congr 1; omega
    have hsp : splice (T.flatMap f ++ junk) (i * es) (Builtin.zeroCells zero (S.length - i)).toList = (T.take i).flatMap f ++ ((Builtin.zeroCells zero (S.length - i)).toList ++ junk) := by
      have e1 : T.flatMap f = (T.take i).flatMap f ++ (T.drop i).flatMap f := by rw [← List.flatMap_append, List.take_append_drop]
      have h4 : ((T.drop i).flatMap f).length = (S.length - i) * es := by rw [flat_len hf, List.length_drop, hT]
      rw [splice_eq _ _ _ (by rw [hl3, hzl]; omega), e1, List.append_assoc ((T.take i).flatMap f), hzl, List.take_append_of_le_length (by omega), List.take_of_length_le (by omega), ← List.append_assoc ((T.take i).flatMap f), List.drop_append, List.drop_eq_nil_of_le (by rw [List.length_append]; omega), List.nil_append, List.length_append, hti, h4, Nat.sub_self, List.drop_zero, List.append_assoc]
    rw [hsp, ht1] at d2
    refine k _ _ ?_
    rw [hlen]
    refine ⟨Rw.mk d2.1 (by omega) (by rw [flat_len hf, hlen]) ?_, d2.2⟩
    rw [← ht1, ← hsp, splice_length]; exact hl3
end
end Go.Jac
