/- Memory: bytes into pages that are committed. -/
import Derived.Test.YtlcbfahjejgjlaaMi
set_option maxRecDepth 100000
set_option maxHeartbeats 8000000
namespace Go.Proofs.Ytlcbfahjejgjlaa
open Go Go.Jac
/-- What is written into an object's pages. -/
structure PutR (pl : PL) (a : Nat) (l : List Int) (F F' : List Fr) : Prop where
  len : F'.length = F.length
  us : ∀ f, (fr F' f).users = (fr F f).users
  oth : ∀ f, ¬ ((fr F f).users = 1 ∧ cnt pl f = 1) → (fr F' f).data = (fr F f).data
  byt : ∀ i, byt F' pl i = if a ≤ i ∧ i < a + l.length then (l[i - a]?).getD 0 else byt F pl i
  used : usedF F' = usedF F
theorem PutR.refl (pl : PL) (a : Nat) (F : List Fr) : PutR pl a [] F F := ⟨rfl, fun _ => rfl, fun _ _ => rfl, fun i => by simp; intro h1 h2; omega, rfl⟩
theorem cnt_two {pl : PL} (hk : Kn pl) {p q : Int} {f : Nat} (hp : look pl p = some f) (hq : look pl q = some f) (h : p ≠ q) : 2 ≤ cnt pl f := by
  have h1 := (del_parts hk hp).2 f
  rw [if_pos rfl] at h1
  have h2 : look (delP pl p) q = some f := by rw [look_del, if_neg (fun e => h e.symm)]; exact hq
  have := cnt_pos h2
  omega
theorem wr_in {g : Nat → Int} {a j : Nat} {l : List Int} (h1 : a ≤ j) (h2 : j < a + l.length) : wr g a l j = (l[j - a]?).getD 0 := if_pos ⟨h1, h2⟩
theorem wr_out {g : Nat → Int} {a j : Nat} {l : List Int} (h : ¬ (a ≤ j ∧ j < a + l.length)) : wr g a l j = g j := if_neg h
theorem put_step {pl : PL} {a j k : Nat} {l : List Int} {F G : List Fr} {f : Nat} (hk : Kn pl) (h : PutR pl a (l.take j) F G) (hj : j + k ≤ l.length) (hkp : k ≤ 64 - (a + j) % 64) (hl : look pl (((a + j) / 64 : Nat) : Int) = some f) (hu : (fr F f).users = 1) (hc : cnt pl f = 1) :
    PutR pl a (l.take (j + k)) F (G.set f ⟨wr (fr G f).data ((a + j) % 64) ((l.drop j).take k), 1⟩) := by
  have hfu : (fr G f).users = 1 := by rw [h.us]; exact hu
  have hf : f < G.length := fr_lt (by omega)
  have hlk : ((l.drop j).take k).length = k := by rw [List.length_take, List.length_drop]; omega
  have hlj : (l.take j).length = j := by rw [List.length_take]; omega
  have hljk : (l.take (j + k)).length = j + k := by rw [List.length_take]; omega
  refine ⟨by rw [List.length_set]; exact h.len, fun g => ?_, fun g hg => ?_, fun i => ?_, ?_⟩
  · rw [fr_set hf]
    split
    · rename_i e; subst e; simp only; omega
    · exact h.us g
  · rw [fr_set hf, if_neg (fun e => by rw [e] at hg; exact hg ⟨hu, hc⟩)]
    exact h.oth g hg
  · have hb := h.byt i
    rw [hlj] at hb
    rw [hljk]
    unfold byt at *
    cases hq : look pl ((i / 64 : Nat) : Int) with
    | none =>
      have hne : i / 64 ≠ (a + j) / 64 := fun e => by rw [e, hl] at hq; cases hq
      rw [hq] at hb
      simp only at hb ⊢
      by_cases h1 : a ≤ i ∧ i < a + (j + k)
      · have h2 : ¬ (a + j ≤ i) := fun h3 => hne (by omega)
        rw [if_pos h1]
        rw [if_pos ⟨h1.1, by omega⟩, List.getElem?_take_of_lt (by omega)] at hb
        rw [List.getElem?_take_of_lt (by omega)]
        exact hb
      · rw [if_neg h1]
    | some g =>
      rw [hq] at hb
      simp only at hb ⊢
      rw [fr_set hf]
      by_cases e : g = f
      · have hpg : ((i / 64 : Nat) : Int) = (((a + j) / 64 : Nat) : Int) := Classical.byContradiction fun hne => by
          rw [e] at hq
          have := cnt_two hk hq hl hne
          omega
        have hpn : i / 64 = (a + j) / 64 := by omega
        rw [if_pos e]
        simp only
        by_cases h1 : a + j ≤ i ∧ i < a + j + k
        · rw [wr_in (by omega) (by rw [hlk]; omega), if_pos ⟨by omega, by omega⟩, List.getElem?_take_of_lt (by omega), List.getElem?_take_of_lt (by omega), List.getElem?_drop]
          congr 2
          omega
        · rw [wr_out (by rw [hlk]; omega), ← e, hb]
          by_cases h2 : a ≤ i ∧ i < a + j
          · rw [if_pos h2, if_pos ⟨h2.1, by omega⟩, List.getElem?_take_of_lt (by omega), List.getElem?_take_of_lt (by omega)]
          · rw [if_neg h2, if_neg (by omega)]
      · rw [if_neg e, hb]
        have hne : i / 64 ≠ (a + j) / 64 := fun e2 => e (by rw [e2, hl] at hq; exact (Option.some.inj hq).symm)
        by_cases h1 : a ≤ i ∧ i < a + j
        · rw [if_pos h1, if_pos ⟨h1.1, by omega⟩, List.getElem?_take_of_lt (by omega), List.getElem?_take_of_lt (by omega)]
        · rw [if_neg h1, if_neg (fun h2 => by omega)]
  · have hs := usedF_set hf (⟨wr (fr G f).data ((a + j) % 64) ((l.drop j).take k), 1⟩ : Fr)
    have e1 : us0 G[f] = false := by rw [us0_fr hf]; exact decide_eq_false (by omega)
    have e2 : us0 (⟨wr (fr G f).data ((a + j) % 64) ((l.drop j).take k), 1⟩ : Fr) = false := rfl
    rw [e1, e2] at hs
    have := h.used
    simp only [Bool.false_eq_true, if_false] at hs
    omega
section
variable {w0 w : World} {L : List HP} {K : Value → WP} {b pb o fb : Nat} {cap : Int} {F : List Fr} {pl : PL} {c0 c1 : Value} {cs ss : List Value} {sv : Value} {l : List Int} {A : HP}
/-- The rest of a row of bytes, its beginning. -/
def dropV (i : Nat) : Value → Value
  | .slice p n c => .slice (if c = i then p else p.map (·.add (i * 1))) (n - i) (c - i)
  | v => v
def takeV (i : Nat) : Value → Value
  | .slice p _ c => .slice (if c = 0 then p else p.map (·.add (0 * 1))) (i - 0) (c - 0)
  | v => v
theorem SeesB.dropV (h : SeesB w sv l) {i : Nat} (hi : i ≤ l.length) : SeesB w (dropV i sv) (l.drop i) := by
  obtain ⟨p, c, rfl, hc, hx⟩ := h
  refine ⟨_, _, by rw [List.length_drop]; rfl, by rw [List.length_drop]; omega, fun hne => ?_⟩
  have hlt : i < l.length := by
    rcases Nat.lt_or_ge i l.length with h | h
    · exact h
    · rw [List.drop_eq_nil_of_le h] at hne; exact absurd rfl hne
  obtain ⟨a, rfl, hxx⟩ := hx (by rintro rfl; simp at hlt)
  refine ⟨a.add i, by rw [if_neg (by omega)]; simp, fun j x hj => ?_⟩
  rw [List.getElem?_drop] at hj
  rw [Addr.add_add]
  exact hxx _ x hj
theorem SeesB.takeV (h : SeesB w sv l) {i : Nat} (hi : i ≤ l.length) : SeesB w (takeV i sv) (l.take i) := by
  obtain ⟨p, c, rfl, hc, hx⟩ := h
  refine ⟨_, _, by rw [List.length_take, Nat.min_eq_left hi]; rfl, by rw [List.length_take]; omega, fun hne => ?_⟩
  obtain ⟨a, rfl, hxx⟩ := hx (by rintro rfl; simp at hne)
  refine ⟨a, ?_, fun j x hj => ?_⟩
  · split
    · rfl
    · simp [Addr.add_zero]
  · rw [List.getElem?_take] at hj
    split at hj
    · exact hxx j x hj
    · cases hj
theorem SeesB.slc_drop (h : SeesB w sv l) {k : IntKind} {i : Nat} (hi : i ≤ l.length) (kk : K (Proofs.Ytlcbfahjejgjlaa.dropV i sv) w) : SlC 1 sv (some (.int k i)) none K w := by
  obtain ⟨p, c, rfl, hc, hx⟩ := h
  exact slc_ok i l.length rfl ⟨_, rfl, hi⟩ rfl kk
theorem SeesB.slc_take (h : SeesB w sv l) {k : IntKind} {i : Nat} (hi : i ≤ l.length) (kk : K (Proofs.Ytlcbfahjejgjlaa.takeV i sv) w) : SlC 1 sv none (some (.int k i)) K w := by
  obtain ⟨p, c, rfl, hc, hx⟩ := h
  exact slc_ok 0 i ⟨_, rfl, by omega⟩ rfl rfl kk
theorem put_ok {a : Nat} (ha : a ≤ 100000000000000) (hk : Kn pl) (hpg : ∀ q ∈ pgL a l.length, ∃ f, look pl q = some f ∧ (fr F f).users = 1 ∧ cnt pl f = 1) (hA : SeesBA w0 A sv l) (hl : l.length ≤ 100000)
    (d : D w0 (cel o 65 (c0 :: c1 :: .map (some fb) :: cs) :: Mp fb (fgM pl) pl.length :: Pl pb cap F :: cel b 60 (.pointer (some ⟨pb, 0, none⟩) :: ss) :: A :: L) w)
    (k : ∀ F' w', PutR pl a l F F' → D w0 (cel o 65 (c0 :: c1 :: .map (some fb) :: cs) :: Mp fb (fgM pl) pl.length :: Pl pb cap F' :: cel b 60 (.pointer (some ⟨pb, 0, none⟩) :: ss) :: A :: L) w' → K (.tuple #[]) w') :
    Cl pg 31 #[.pointer (some ⟨b, 0, none⟩), .pointer (some ⟨o, 0, none⟩), .int .i64 a, sv] K w := by
  refine V.vmo_Set_put_ok ?_
  unfold V.vmo_Set_put
  refine ⟨fun vs w' => ∃ (j : Nat) (v : Value) (G : List Fr), vs = [.int .i64 ((a + j : Nat) : Int), v] ∧ j ≤ l.length ∧ SeesBA w0 A v (l.drop j) ∧ PutR pl a (l.take j) F G ∧
    D w0 (cel o 65 (c0 :: c1 :: .map (some fb) :: cs) :: Mp fb (fgM pl) pl.length :: Pl pb cap G :: cel b 60 (.pointer (some ⟨pb, 0, none⟩) :: ss) :: A :: L) w', fun vs _ => match vs with | [.int _ i, _] => a + l.length - i.toNat | _ => 0, ⟨0, sv, F, rfl, by omega, hA, PutR.refl _ _ _, d⟩, ?_⟩
  clear d
  rintro _ w ⟨j, v, G, rfl, hj, hs, hp, d⟩ _
  simp only [UN]
  have hdl : (l.drop j).length = l.length - j := List.length_drop
  refine (hs _ _ (D.sel [4] d)).len ?_
  rw [hdl]
  repeat (first | refine drw d fun w d => ?_ | (simp +decide only [SEM]) | (apply ldm d; (focus ((repeat (first | exact .h _ | refine .t _ _ ?_)); done)); (focus rfl)) | (apply lam d; (focus ((repeat (first | exact .h _ | refine .t _ _ ?_)); done)); (focus rfl)) | (((repeat (refine bld_c rfl rfl (by simp) ?_; simp only [List.set_cons_zero, List.set_cons_succ])); refine bld_n ?_)) | (refine d_new _ d fun bn w d => ?_) | refine bsl1 (by first | rfl | (simp only [cells_agg, cells_int, cells_bool, cells_ptr, cells_sl, cells_map, cells_fn, List.drop_succ_cons, List.drop_zero, List.take_succ_cons, List.take_zero, Nat.zero_add, Nat.reduceAdd, Int.toNat_natCast, Int.toNat_zero]; rfl)) rfl d (by decide) (by decide) fun bn w d => ?_ | refine bsl2 rfl rfl d fun bn w d => ?_ | refine bsl0 d fun bn w d => ?_ | refine qt d ?_ | refine qe_nil ?_ | refine qe_fa ?_ | refine qe_len ?_ | (apply qlm; (focus ((repeat (first | exact .h _ | refine .t _ _ ?_)); done)); (focus rfl)) | (apply qam; (focus ((repeat (first | exact .h _ | refine .t _ _ ?_)); done)); (focus rfl)) | refine qe _ (fun w d => by ((repeat (refine bld_c rfl rfl (by simp) ?_; simp only [List.set_cons_zero, List.set_cons_succ])); refine bld_n ?_); exact ⟨rfl, rfl⟩) ?_ | refine qe_ext rfl ?_ | refine qe_op (fun _ _ => BinI_add) ?_ | refine qe_op (fun _ _ => BinI_sub) ?_ | refine qe_op (fun _ _ => BinI_mul) ?_ | refine qe_op (fun _ _ => BinI_eql) ?_ | refine qe_op (fun _ _ => BinI_neq) ?_ | refine qe_op (fun _ _ => BinI_lss) ?_ | refine qe_op (fun _ _ => BinI_leq) ?_ | refine qe_op (fun _ _ => BinI_gtr) ?_ | refine qe_op (fun _ _ => BinI_geq) ?_ | refine qe_op (fun _ _ => Un_not _) ?_ | refine qia (by first | omega | (simp; omega)) ?_ | refine qia0 (by first | omega | (simp; omega)) ?_ | (focus (apply qln; (focus ((repeat (first | exact .h _ | refine .t _ _ ?_)); done)); (focus exact fun _ => rfl); rotate_left; (focus (first | omega | (simp; done) | (simp; omega))))) | (focus (apply ql1; (focus ((repeat (first | exact .h _ | refine .t _ _ ?_)); done)); (focus exact fun _ => rfl); (focus rfl); rotate_left; (focus (first | omega | (simp; done) | (simp; omega))))) | (focus (apply ql0; (focus ((repeat (first | exact .h _ | refine .t _ _ ?_)); done)); (focus exact fun _ => rfl); (focus rfl); rotate_left; (focus (first | omega | (simp; done) | (simp; omega))))) | (apply swm d; (focus ((repeat (first | exact .h _ | apply Rp.t)); done)); (focus rfl); (focus rfl); (focus exact ones rfl); intro w d; simp only [SPL] at d) | (apply stm d; (focus ((repeat (first | exact .h _ | apply Rp.t)); done)); (focus rfl); (focus simp); (focus exact ones rfl); intro w d; simp only [SPL] at d) | (apply lpm d; (focus ((repeat (first | exact .h _ | refine .t _ _ ?_)); done)); (focus (simp only [SEM]; rfl)); (focus rfl)) | (focus (apply rw_fld d; (focus ((repeat (first | exact .h _ | refine .t _ _ ?_)); done)); (focus exact fun _ => rfl); (focus rfl); rotate_left; (focus (first | omega | (simp; done) | (simp; omega))))) | (focus (apply rw_el1 d; (focus ((repeat (first | exact .h _ | refine .t _ _ ?_)); done)); (focus exact fun _ => rfl); (focus rfl); rotate_left; (focus (first | omega | (simp; done) | (simp; omega))))) | (focus (apply rw_elN d; (focus ((repeat (first | exact .h _ | refine .t _ _ ?_)); done)); (focus exact fun _ => rfl); rotate_left; (focus (first | omega | (simp; done) | (simp; omega))))) | (focus (apply rw_fld0 d; (focus ((repeat (first | exact .h _ | refine .t _ _ ?_)); done)); (focus exact fun _ => rfl); (focus rfl); rotate_left; (focus (first | omega | (simp; done) | (simp; omega))))) | (focus (apply rw_el10 d; (focus ((repeat (first | exact .h _ | refine .t _ _ ?_)); done)); (focus exact fun _ => rfl); (focus rfl); rotate_left; (focus (first | omega | (simp; done) | (simp; omega))))) | (focus (apply rw_elN0 d; (focus ((repeat (first | exact .h _ | refine .t _ _ ?_)); done)); (focus exact fun _ => rfl); rotate_left; (focus (first | omega | (simp; done) | (simp; omega))))) | refine ch d ?_ | refine ch (D.tail d) ?_ | refine ch (D.tail (D.tail d)) ?_ | refine ch (D.tail (D.tail (D.tail d))) ?_ | refine qe _ (fun w d => max2_ok ⟨rfl, rfl⟩) ?_ | refine qe _ (fun w d => min2_ok ⟨rfl, rfl⟩) ?_ | refine max2_ok ?_ | refine min2_ok ?_ | refine bsl3 rfl rfl rfl d fun bn w d => ?_ | refine qe_op (fun _ _ => BinI_quo rfl) ?_ | refine qe_op (fun _ _ => BinI_rem rfl) ?_ | refine qe_op (fun _ _ => BinI_or) ?_ | refine qe_op (fun _ _ => BinI_and) ?_ | refine qe_op (fun _ _ => BinI_andNot) ?_ | refine qe_op (fun _ _ => BinI_shl) ?_ | refine qe_op (fun _ _ => BinI_shr) ?_)
  refine ⟨fun hlt => ?_, fun hge => ?_⟩
  · have hlt' : j < l.length := by omega
    have e1 : ((a + j : Nat) : Int).tmod 64 = (((a + j) % 64 : Nat) : Int) := by rw [Int.tmod_eq_emod_of_nonneg (by omega)]; omega
    rw [e1]
    refine (hs _ _ (D.sel [4] d)).len ?_
    rw [hdl, BinI_sub, w64 (by omega) (by omega)]
    refine min2_ok ?_
    obtain ⟨k, hke⟩ : ∃ k : Nat, (k : Int) = min ((l.length - j : Nat) : Int) (64 - (((a + j) % 64 : Nat) : Int)) := ⟨min (l.length - j) (64 - (a + j) % 64), by omega⟩
    rw [← hke]
    have hk1 : 0 < k := by omega
    have hk2 : j + k ≤ l.length := by omega
    have hk3 : k ≤ 64 - (a + j) % 64 := by omega
    have e2 : IntKind.i64.wrap (((a + j : Nat) : Int).tdiv 64) = (((a + j) / 64 : Nat) : Int) := by
      rw [Int.tdiv_eq_ediv_of_nonneg (by omega), w64 (by omega) (by omega)]; omega
    have hin : (((a + j) / 64 : Nat) : Int) ∈ pgL a l.length := by
      rw [pgL_mem]
      refine ⟨(a + j) / 64 - a / 64, ?_, by omega⟩
      unfold pgN
      rw [if_neg (by omega)]
      omega
    obtain ⟨f, hf1, hf2, hf3⟩ := hpg _ hin
    have hfg : fgM pl (((a + j) / 64 : Nat) : Int) = some (.int .i64 (f : Int)) := by unfold fgM; rw [hf1]; rfl
    refine drw d fun w d => ?_
    refine qt d ?_
    repeat (first | refine drw d fun w d => ?_ | (simp +decide only [SEM]) | (apply ldm d; (focus ((repeat (first | exact .h _ | refine .t _ _ ?_)); done)); (focus rfl)) | (apply lam d; (focus ((repeat (first | exact .h _ | refine .t _ _ ?_)); done)); (focus rfl)) | (((repeat (refine bld_c rfl rfl (by simp) ?_; simp only [List.set_cons_zero, List.set_cons_succ])); refine bld_n ?_)) | (refine d_new _ d fun bn w d => ?_) | refine bsl1 (by first | rfl | (simp only [cells_agg, cells_int, cells_bool, cells_ptr, cells_sl, cells_map, cells_fn, List.drop_succ_cons, List.drop_zero, List.take_succ_cons, List.take_zero, Nat.zero_add, Nat.reduceAdd, Int.toNat_natCast, Int.toNat_zero]; rfl)) rfl d (by decide) (by decide) fun bn w d => ?_ | refine bsl2 rfl rfl d fun bn w d => ?_ | refine bsl0 d fun bn w d => ?_ | refine qt d ?_ | refine qe_nil ?_ | refine qe_fa ?_ | refine qe_len ?_ | (apply qlm; (focus ((repeat (first | exact .h _ | refine .t _ _ ?_)); done)); (focus rfl)) | (apply qam; (focus ((repeat (first | exact .h _ | refine .t _ _ ?_)); done)); (focus rfl)) | refine qe _ (fun w d => by ((repeat (refine bld_c rfl rfl (by simp) ?_; simp only [List.set_cons_zero, List.set_cons_succ])); refine bld_n ?_); exact ⟨rfl, rfl⟩) ?_ | refine qe_ext rfl ?_ | refine qe_op (fun _ _ => BinI_add) ?_ | refine qe_op (fun _ _ => BinI_sub) ?_ | refine qe_op (fun _ _ => BinI_mul) ?_ | refine qe_op (fun _ _ => BinI_eql) ?_ | refine qe_op (fun _ _ => BinI_neq) ?_ | refine qe_op (fun _ _ => BinI_lss) ?_ | refine qe_op (fun _ _ => BinI_leq) ?_ | refine qe_op (fun _ _ => BinI_gtr) ?_ | refine qe_op (fun _ _ => BinI_geq) ?_ | refine qe_op (fun _ _ => Un_not _) ?_ | refine qia (by first | omega | (simp; omega)) ?_ | refine qia0 (by first | omega | (simp; omega)) ?_ | (focus (apply qln; (focus ((repeat (first | exact .h _ | refine .t _ _ ?_)); done)); (focus exact fun _ => rfl); rotate_left; (focus (first | omega | (simp; done) | (simp; omega))))) | (focus (apply ql1; (focus ((repeat (first | exact .h _ | refine .t _ _ ?_)); done)); (focus exact fun _ => rfl); (focus rfl); rotate_left; (focus (first | omega | (simp; done) | (simp; omega))))) | (focus (apply ql0; (focus ((repeat (first | exact .h _ | refine .t _ _ ?_)); done)); (focus exact fun _ => rfl); (focus rfl); rotate_left; (focus (first | omega | (simp; done) | (simp; omega))))) | (apply swm d; (focus ((repeat (first | exact .h _ | apply Rp.t)); done)); (focus rfl); (focus rfl); (focus exact ones rfl); intro w d; simp only [SPL] at d) | (apply stm d; (focus ((repeat (first | exact .h _ | apply Rp.t)); done)); (focus rfl); (focus simp); (focus exact ones rfl); intro w d; simp only [SPL] at d) | (apply lpm d; (focus ((repeat (first | exact .h _ | refine .t _ _ ?_)); done)); (focus (simp only [SEM]; rfl)); (focus rfl)) | (focus (apply rw_fld d; (focus ((repeat (first | exact .h _ | refine .t _ _ ?_)); done)); (focus exact fun _ => rfl); (focus rfl); rotate_left; (focus (first | omega | (simp; done) | (simp; omega))))) | (focus (apply rw_el1 d; (focus ((repeat (first | exact .h _ | refine .t _ _ ?_)); done)); (focus exact fun _ => rfl); (focus rfl); rotate_left; (focus (first | omega | (simp; done) | (simp; omega))))) | (focus (apply rw_elN d; (focus ((repeat (first | exact .h _ | refine .t _ _ ?_)); done)); (focus exact fun _ => rfl); rotate_left; (focus (first | omega | (simp; done) | (simp; omega))))) | (focus (apply rw_fld0 d; (focus ((repeat (first | exact .h _ | refine .t _ _ ?_)); done)); (focus exact fun _ => rfl); (focus rfl); rotate_left; (focus (first | omega | (simp; done) | (simp; omega))))) | (focus (apply rw_el10 d; (focus ((repeat (first | exact .h _ | refine .t _ _ ?_)); done)); (focus exact fun _ => rfl); (focus rfl); rotate_left; (focus (first | omega | (simp; done) | (simp; omega))))) | (focus (apply rw_elN0 d; (focus ((repeat (first | exact .h _ | refine .t _ _ ?_)); done)); (focus exact fun _ => rfl); rotate_left; (focus (first | omega | (simp; done) | (simp; omega))))) | refine ch d ?_ | refine ch (D.tail d) ?_ | refine ch (D.tail (D.tail d)) ?_ | refine ch (D.tail (D.tail (D.tail d))) ?_ | refine qe _ (fun w d => max2_ok ⟨rfl, rfl⟩) ?_ | refine qe _ (fun w d => min2_ok ⟨rfl, rfl⟩) ?_ | refine max2_ok ?_ | refine min2_ok ?_ | refine bsl3 rfl rfl rfl d fun bn w d => ?_ | refine qe_op (fun _ _ => BinI_quo rfl) ?_ | refine qe_op (fun _ _ => BinI_rem rfl) ?_ | refine qe_op (fun _ _ => BinI_or) ?_ | refine qe_op (fun _ _ => BinI_and) ?_ | refine qe_op (fun _ _ => BinI_andNot) ?_ | refine qe_op (fun _ _ => BinI_shl) ?_ | refine qe_op (fun _ _ => BinI_shr) ?_)
    rw [e2]
    refine qe _ (fun w d => lkm1_ok Try.underlying63 Try.underlying3 (z := .int .i64 0) (by kernel_rfl) d (.t _ _ (.h _)) ⟨rfl, rfl⟩) ?_
    rw [hfg]
    simp only [Option.getD_some]
    refine qe (takeV k v) (fun w d => (hs _ _ (D.sel [4] d)).slc_take (by rw [hdl]; omega) ⟨rfl, rfl⟩) ?_
    have hgu := hp.us f
    have hgf : f < G.length := fr_lt (by omega)
    have hlk : ((l.drop j).take k).length = k := by rw [List.length_take]; omega
    refine fn40 (fun _ _ => rfl) (Write_ok (l := (l.drop j).take k) hgf (by rw [← fr_get hgf]; omega) (by omega) (by omega) (D.sel [2] d) (fun w' d' => (hs _ _ (D.sel [4] d')).takeV (by rw [hdl]; omega)) fun w d => ?_)
    rw [← fr_get hgf] at d
    have hst := put_step hk hp hk2 hk3 hf1 hf2 hf3
    repeat (first | refine drw d fun w d => ?_ | (simp +decide only [SEM]) | (apply ldm d; (focus ((repeat (first | exact .h _ | refine .t _ _ ?_)); done)); (focus rfl)) | (apply lam d; (focus ((repeat (first | exact .h _ | refine .t _ _ ?_)); done)); (focus rfl)) | (((repeat (refine bld_c rfl rfl (by simp) ?_; simp only [List.set_cons_zero, List.set_cons_succ])); refine bld_n ?_)) | (refine d_new _ d fun bn w d => ?_) | refine bsl1 (by first | rfl | (simp only [cells_agg, cells_int, cells_bool, cells_ptr, cells_sl, cells_map, cells_fn, List.drop_succ_cons, List.drop_zero, List.take_succ_cons, List.take_zero, Nat.zero_add, Nat.reduceAdd, Int.toNat_natCast, Int.toNat_zero]; rfl)) rfl d (by decide) (by decide) fun bn w d => ?_ | refine bsl2 rfl rfl d fun bn w d => ?_ | refine bsl0 d fun bn w d => ?_ | refine qt d ?_ | refine qe_nil ?_ | refine qe_fa ?_ | refine qe_len ?_ | (apply qlm; (focus ((repeat (first | exact .h _ | refine .t _ _ ?_)); done)); (focus rfl)) | (apply qam; (focus ((repeat (first | exact .h _ | refine .t _ _ ?_)); done)); (focus rfl)) | refine qe _ (fun w d => by ((repeat (refine bld_c rfl rfl (by simp) ?_; simp only [List.set_cons_zero, List.set_cons_succ])); refine bld_n ?_); exact ⟨rfl, rfl⟩) ?_ | refine qe_ext rfl ?_ | refine qe_op (fun _ _ => BinI_add) ?_ | refine qe_op (fun _ _ => BinI_sub) ?_ | refine qe_op (fun _ _ => BinI_mul) ?_ | refine qe_op (fun _ _ => BinI_eql) ?_ | refine qe_op (fun _ _ => BinI_neq) ?_ | refine qe_op (fun _ _ => BinI_lss) ?_ | refine qe_op (fun _ _ => BinI_leq) ?_ | refine qe_op (fun _ _ => BinI_gtr) ?_ | refine qe_op (fun _ _ => BinI_geq) ?_ | refine qe_op (fun _ _ => Un_not _) ?_ | refine qia (by first | omega | (simp; omega)) ?_ | refine qia0 (by first | omega | (simp; omega)) ?_ | (focus (apply qln; (focus ((repeat (first | exact .h _ | refine .t _ _ ?_)); done)); (focus exact fun _ => rfl); rotate_left; (focus (first | omega | (simp; done) | (simp; omega))))) | (focus (apply ql1; (focus ((repeat (first | exact .h _ | refine .t _ _ ?_)); done)); (focus exact fun _ => rfl); (focus rfl); rotate_left; (focus (first | omega | (simp; done) | (simp; omega))))) | (focus (apply ql0; (focus ((repeat (first | exact .h _ | refine .t _ _ ?_)); done)); (focus exact fun _ => rfl); (focus rfl); rotate_left; (focus (first | omega | (simp; done) | (simp; omega))))) | (apply swm d; (focus ((repeat (first | exact .h _ | apply Rp.t)); done)); (focus rfl); (focus rfl); (focus exact ones rfl); intro w d; simp only [SPL] at d) | (apply stm d; (focus ((repeat (first | exact .h _ | apply Rp.t)); done)); (focus rfl); (focus simp); (focus exact ones rfl); intro w d; simp only [SPL] at d) | (apply lpm d; (focus ((repeat (first | exact .h _ | refine .t _ _ ?_)); done)); (focus (simp only [SEM]; rfl)); (focus rfl)) | (focus (apply rw_fld d; (focus ((repeat (first | exact .h _ | refine .t _ _ ?_)); done)); (focus exact fun _ => rfl); (focus rfl); rotate_left; (focus (first | omega | (simp; done) | (simp; omega))))) | (focus (apply rw_el1 d; (focus ((repeat (first | exact .h _ | refine .t _ _ ?_)); done)); (focus exact fun _ => rfl); (focus rfl); rotate_left; (focus (first | omega | (simp; done) | (simp; omega))))) | (focus (apply rw_elN d; (focus ((repeat (first | exact .h _ | refine .t _ _ ?_)); done)); (focus exact fun _ => rfl); rotate_left; (focus (first | omega | (simp; done) | (simp; omega))))) | (focus (apply rw_fld0 d; (focus ((repeat (first | exact .h _ | refine .t _ _ ?_)); done)); (focus exact fun _ => rfl); (focus rfl); rotate_left; (focus (first | omega | (simp; done) | (simp; omega))))) | (focus (apply rw_el10 d; (focus ((repeat (first | exact .h _ | refine .t _ _ ?_)); done)); (focus exact fun _ => rfl); (focus rfl); rotate_left; (focus (first | omega | (simp; done) | (simp; omega))))) | (focus (apply rw_elN0 d; (focus ((repeat (first | exact .h _ | refine .t _ _ ?_)); done)); (focus exact fun _ => rfl); rotate_left; (focus (first | omega | (simp; done) | (simp; omega))))) | refine ch d ?_ | refine ch (D.tail d) ?_ | refine ch (D.tail (D.tail d)) ?_ | refine ch (D.tail (D.tail (D.tail d))) ?_ | refine qe _ (fun w d => max2_ok ⟨rfl, rfl⟩) ?_ | refine qe _ (fun w d => min2_ok ⟨rfl, rfl⟩) ?_ | refine max2_ok ?_ | refine min2_ok ?_ | refine bsl3 rfl rfl rfl d fun bn w d => ?_ | refine qe_op (fun _ _ => BinI_quo rfl) ?_ | refine qe_op (fun _ _ => BinI_rem rfl) ?_ | refine qe_op (fun _ _ => BinI_or) ?_ | refine qe_op (fun _ _ => BinI_and) ?_ | refine qe_op (fun _ _ => BinI_andNot) ?_ | refine qe_op (fun _ _ => BinI_shl) ?_ | refine qe_op (fun _ _ => BinI_shr) ?_)
    refine (hs _ _ (D.sel [4] d)).slc_drop (by rw [hdl]; omega) ?_
    rw [show IntKind.i64.wrap (((a + j : Nat) : Int) + (k : Int)) = ((a + (j + k) : Nat) : Int) from by rw [w64 (by omega) (by omega)]; omega]
    refine ⟨⟨j + k, dropV k v, _, rfl, hk2, fun L w d => ?_, hst, D.sel [1, 2, 0] d⟩, by omega⟩
    have := (hs L w d).dropV (i := k) (by rw [hdl]; omega)
    rwa [List.drop_drop] at this
  · have e : j = l.length := by omega
    subst e
    rw [List.take_length] at hp
    exact k G w hp d
end
end Go.Proofs.Ytlcbfahjejgjlaa
