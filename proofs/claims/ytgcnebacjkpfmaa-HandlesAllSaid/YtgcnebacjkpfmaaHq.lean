/- Handles: the law of taking all or none, walked. -/
import Derived.Test.YtgcnebacjkpfmaaHp
set_option maxRecDepth 100000
namespace Go.Proofs.Ytgcnebacjkpfmaa
open Go Go.Jac
theorem all_law_ok {w0 w : World} {K : Value → WP} {L : List HP} {a1 : Value} {m : Nat} {n0 : Int} (hn0 : I64 n0) (ha : OldSl Try.prog w0 3 1 a1 m) (hm : Old w0 ∈ L) (d : D w0 L w) (k : ∀ w', D w0 L w' → K (.bool true) w') :
    Cl pg 6 #[.int .i64 n0, a1] K w := by
  refine V.jacinthlaw06_HandlesAll_ok ?_
  unfold V.jacinthlaw06_HandlesAll
  have hmx := ha.1
  unfold maxLen at hmx
  refine call_of (fun _ _ => rfl) (New_ok (by omega) d fun bA w1 d1 => ?_)
  refine call_of (fun _ _ => rfl) (New_ok (by omega) d1 fun bB w2 d2 => ?_)
  have last : ∀ (w' : World) (M : List HP) (K2 : Value → WP), D w0 (M ++ L) w' → (∀ w', D w0 L w' → K2 (.bool true) w') → FnV pg (.func (.func 12) #[] #[]) #[] K2 w' := by
    intro w' M K2 d' k2
    refine call_of (fun _ _ => rfl) (awake_ok d' fun w'' d'' => k2 _ ?_)
    clear d'
    induction M with
    | nil => exact d''
    | cons A M ih => exact ih d''.tail
  simp +decide only [Grd_t, Grd_f, BinI_lss, BinI_gtr, EqP_pn, decide_eq_true_eq, decide_eq_false_iff_not, false_implies, and_true, forall_const]
  refine ⟨fun c1 => ⟨fun c2 => ?_, fun c2 => last _ [_, _] _ d2 k⟩, fun c1 => last _ [_, _] _ d2 k⟩
  refine ha.len ?_
  simp +decide only [Cnd_b, Grd_t, BinI_gtr, EqP_pn, decide_eq_true_eq, decide_eq_false_iff_not, false_implies, and_true, forall_const]
  refine ⟨fun c3 => last _ [_, _] _ d2 k, fun c3 => ?_⟩
  obtain ⟨n, rfl⟩ : ∃ n : Nat, n0 = n := ⟨n0.toNat, by omega⟩
  have hn : n ≤ 60 := by omega
  obtain ⟨l, rfl, hl64, hel⟩ := osl_ints ha
  have hl : l.length ≤ 60 := by omega
  have hw1 : ∀ i : Nat, i ≤ 65536 → IntKind.i64.wrap ((i : Int) + 1) = i + 1 := fun i hi => w64 (by omega) (by omega)
  refine ⟨fun vs w' => ∃ (i : Nat), vs = [.int .i64 i] ∧ i ≤ n ∧ D w0 (Tb bA 64 (rowSq i) :: Tb bB 64 (rowSq i) :: L) w', fun vs _ => match vs with | [.int _ i] => n - i.toNat | _ => 0, ⟨0, rfl, by omega, d2.swap⟩, ?_⟩
  rintro _ w3 ⟨i, rfl, hi, d3⟩ _
  have hsq : IntKind.i64.wrap ((i : Int) * i) = (i : Int) * i := by
    have h1 : (i : Int) * i ≤ 60 * 60 := Int.mul_le_mul (by omega) (by omega) (by omega) (by omega)
    have h2 : 0 ≤ (i : Int) * i := Int.mul_nonneg (by omega) (by omega)
    exact w64 (by omega) (by omega)
  simp +decide only [UN, Cnd_b, BinI_lss, decide_eq_true_eq, decide_eq_false_iff_not]
  refine ⟨fun hlt => ?_, fun hge => ?_⟩
  · refine bld_ok (cs := #[.int .i64 i, .int .i64 0, .int .i64 0]) rfl ?_
    rw [BinI_mul, hsq]
    refine allAdd_ok (by omega) d3 fun _ w4 d4 => ?_
    refine bld_ok (cs := #[.int .i64 i, .int .i64 0, .int .i64 0]) rfl ?_
    rw [BinI_mul, hsq]
    refine allAdd_ok (by omega) d4.swap fun _ w5 d5 => ?_
    rw [BinI_add, hw1 i (by omega)]
    exact ⟨⟨i + 1, by simp, by omega, d5.swap⟩, by show n - ((i : Int) + 1).toNat < n - (i : Int).toNat; omega⟩
  have hin : i = n := by omega
  subst hin
  refine d_mk (by omega) d3 fun cv w4 d4 => ?_
  refine ha.len ?_
  have c0 : cns i (l.take 0) = List.replicate i 0 := by
    apply List.ext_getElem
    · simp [cns]
    · intro j h1 h2; rw [cns_get]; simp
  have dI : D w0 (Rw 3 1 cv i (ints (cns i (l.take 0))) :: Rw 3 1 (.slice none 0 0) 0 (ints ((l.take 0).map (fv i))) :: Tb bA 64 (rowSq i) :: Tb bB 64 (rowSq i) :: L) w4 := by
    rw [c0]
    have := D.swap (⟨Rw.nil 3 1 d4.1, d4.2⟩ : D w0 (Rw 3 1 (.slice none 0 0) 0 [] :: _) w4)
    exact this
  refine ⟨AInv w0 L bA bB i l cv, amu l, ⟨_, _, _, 0, rfl, by omega, ⟨fun _ j hj => by simp at hj, fun _ => rfl⟩, fun q hq => by simp at hq, dI⟩, ?_⟩
  rintro _ w5 ⟨u, wh, sv, q, rfl, hq, hwh, hfair, d5⟩ _
  simp +decide only [UN, Cnd_b, BinI_lss, decide_eq_true_eq, decide_eq_false_iff_not]
  refine ⟨fun hlt => ?_, fun hge => ?_⟩
  · have hq' : q < l.length := by omega
    obtain ⟨a, hia, hcell⟩ := hel q hq'
    refine hia _ _ (old_ld1 d5 (by simp [hm]) (by simpa [Addr.add] using hcell) ?_)
    have e1 : l.take (q + 1) = l.take q ++ [l[q]] := List.take_succ_eq_append_getElem hq'
    have hk64 := hl64 _ (List.getElem_mem hq')
    intro K' hK
    have hmu : ∀ wv, amu l [u, .bool wh, sv, .int .i64 q] wv = l.length - q := fun wv => by show l.length - (q : Int).toNat = _; omega
    have hws : whole i (l.take (q + 1)) ↔ whole i (l.take q) ∧ (0 ≤ l[q] ∧ l[q] < i) ∧ l[q] ∉ l.take q := by rw [e1]; exact whole_snoc
    have fin : ∀ (u' : Value) (w' : World), fair i l[q] → D w0 (Rw 3 1 cv i (ints (cns i (l.take (q + 1)))) :: Rw 3 1 sv q (ints ((l.take q).map (fv i))) :: Tb bA 64 (rowSq i) :: Tb bB 64 (rowSq i) :: L) w' → K' [.int .i64 (fv i l[q]), u'] w' := by
      intro u' w' hfa d'
      refine hK _ _ ?_
      intro _
      have hfair' : ∀ k ∈ l.take (q + 1), fair i k := by
        rw [e1]
        intro k hk
        rcases List.mem_append.1 hk with h | h
        · exact hfair k h
        · rw [List.mem_singleton.1 h]; exact hfa
      simp +decide only [UN, Grd_t, BinI_lss, BinI_geq, decide_eq_true_eq, decide_eq_false_iff_not]
      refine ⟨fun hwt => ⟨fun h0 => ⟨fun h1 => ?_, fun h1 => ?_⟩, fun h0 => ?_⟩, fun hwf => ?_⟩
      · refine read_cnt (cns_len _ _) h0 h1 d' ?_
        simp +decide only [BinI_eql]
        refine all_next hl hq' ?_ hfair' (hmu _) d'
        rw [decide_eq_true_eq, cns_get, hws, e1, List.count_append]
        have : (((l[q]).toNat : Nat) : Int) = l[q] := by omega
        rw [this, List.count_singleton_self]
        constructor
        · intro h
          refine ⟨hwh.1 hwt, ⟨h0, h1⟩, fun hin => ?_⟩
          have := List.count_pos_iff.2 hin
          omega
        · rintro ⟨_, _, h⟩
          rw [List.count_eq_zero_of_not_mem h]; rfl
      · refine all_next hl hq' ⟨fun h => (by cases h), fun h => ?_⟩ hfair' (hmu _) d'
        exact absurd (hws.1 h).2.1.2 h1
      · refine all_next hl hq' ⟨fun h => (by cases h), fun h => ?_⟩ hfair' (hmu _) d'
        exact absurd (hws.1 h).2.1.1 h0
      · refine all_next hl hq' ⟨fun h => (by cases h), fun h => ?_⟩ hfair' (hmu _) d'
        exact absurd (hwh.2 (hws.1 h).1) (by rw [hwf]; simp)
    have out : ¬ (0 ≤ l[q] ∧ l[q] < i) → FnV pg (.func (.func 11) #[] #[]) #[.int .i64 l[q]] (fun v97 => BinI .geq v97 (.int .i64 0) fun v98 =>
        Grd v98 true (FnV pg (.func (.func 11) #[] #[]) #[.int .i64 l[q]] fun v101 => BinI .lss v101 (.int .i64 i) fun v103 =>
          Cnd v103 (FnV pg (.func (.func 12) #[] #[]) #[] fun v105 => K v105) (K' [.int .i64 l[q], u])) (K' [.int .i64 l[q], u])) w5 := by
      intro hk
      have hf : fv i l[q] = l[q] := by unfold fv; rw [if_neg hk]
      have d6 : D w0 (Rw 3 1 cv i (ints (cns i (l.take (q + 1)))) :: Rw 3 1 sv q (ints ((l.take q).map (fv i))) :: Tb bA 64 (rowSq i) :: Tb bB 64 (rowSq i) :: L) w5 := by
        rw [e1, cns_out hk]; exact d5
      have fin' : fair i l[q] → K' [.int .i64 l[q], u] w5 := fun h => by have := fin u w5 h d6; rwa [hf] at this
      refine call_of (fun _ _ => rfl) (Place_ok hk64 ?_)
      simp +decide only [Grd_t, BinI_geq, decide_eq_true_eq, decide_eq_false_iff_not]
      refine ⟨fun h1 => ?_, fun h1 => fin' (.inr fun h => h1 h.1)⟩
      refine call_of (fun _ _ => rfl) (Place_ok hk64 ?_)
      simp +decide only [Cnd_b, BinI_lss, decide_eq_true_eq, decide_eq_false_iff_not]
      exact ⟨fun h2 => last _ [_, _, _, _] _ d5 k, fun h2 => fin' (.inr fun h => h2 h.2)⟩
    simp +decide only [Cnd_b, Grd_t, BinI_mul, BinI_lss, BinI_geq, decide_eq_true_eq, decide_eq_false_iff_not]
    refine ⟨fun h0 => ⟨fun h1 => ?_, fun h1 => out fun h => h1 h.2⟩, fun h0 => out fun h => h0 h.1⟩
    obtain ⟨p, hp⟩ : ∃ p : Nat, l[q] = p := ⟨l[q].toNat, by omega⟩
    have hsq2 : IntKind.i64.wrap (l[q] * l[q]) = l[q] * l[q] := by
      have h3 : l[q] * l[q] ≤ 60 * 60 := Int.mul_le_mul (by omega) (by omega) (by omega) (by omega)
      have h4 : 0 ≤ l[q] * l[q] := Int.mul_nonneg (by omega) (by omega)
      exact w64 (by omega) (by omega)
    rw [hsq2]
    refine call_of (fun _ _ => rfl) (Value_ok ?_)
    refine upd_cnt (cns_len _ _) h0 h1 d5 fun w6 d6 => ?_
    have hf : fv i l[q] = hval l[q] (l[q] * l[q]) := by unfold fv; rw [if_pos ⟨h0, h1⟩]
    rw [← hf]
    refine fin u w6 (.inl ⟨h0, h1⟩) ?_
    rw [cns_get] at d6
    have hcl : ((List.count ((l[q].toNat : Nat) : Int) (l.take q) : Nat) : Int) ≤ 60 := by
      have := List.count_le_length (l := l.take q) (a := ((l[q].toNat : Nat) : Int))
      rw [List.length_take] at this; omega
    rw [w64 (by omega) (by omega)] at d6
    have e5 : cns i (l.take (q + 1)) = (cns i (l.take q)).set l[q].toNat ((List.count ((l[q].toNat : Nat) : Int) (l.take q) : Int) + 1) := by
      rw [e1]
      have := cns_snoc (n := i) (l := l.take q) (k := l[q].toNat) (by omega)
      rwa [Int.toNat_of_nonneg h0] at this ⊢
    rw [e5]
    exact d6
  · have eq : l.take q = l := List.take_of_length_le (by omega)
    have eqq : q = (l.map (fv i)).length := by rw [List.length_map]; omega
    rw [eq] at d5 hwh hfair
    rw [eqq] at d5
    have hv64 : ∀ v ∈ l.map (fv i), I64 v := by
      intro v hv
      obtain ⟨x, hx, rfl⟩ := List.mem_map.1 hv
      unfold fv
      split
      · exact hval_i64 _ _
      · exact hl64 x hx
    have hlen : (l.map (fv i)).length ≤ 65536 := by rw [List.length_map]; omega
    have hT : TOk 64 (rowSq i) := ⟨by rw [rowSq_len]; omega, by decide⟩
    have tailB : ∀ (w' : World), D w0 (Rw 3 1 cv i (ints (cns i l)) :: Rw 3 1 sv (l.map (fv i)).length (ints (l.map (fv i))) :: Tb bB 64 (rowSq i) :: L) w' →
        FnV pg (.func (.func 20) #[] #[]) #[.pointer (some ⟨bB, 0, none⟩), sv] (fun _ =>
          LenS cv fun v176 =>
          LoopC [u, (.int .i64 0)] fun vK_3 vs => AllE <|
          UN vs fun v4_2 vs =>
          UN vs fun v177 _ =>
          BinI .lss v177 v176 fun v178 =>
          Cnd v178 (IA 1 cv v177 fun v180 =>
          Ld1 v180 fun v181 =>
          BinI .mul v177 v177 fun v187 =>
          FnV pg (.func (.func 9) #[] #[]) #[v177, v187] fun v188 =>
          FnV pg (.func (.func 16) #[] #[]) #[.pointer (some ⟨bB, 0, none⟩), v188] fun v189 =>
          Ext v189 0 fun v190 =>
          Ext v189 1 fun v191 =>
          New 35 #[(.int .i64 0), (.int .i64 0), (.int .i64 0)] fun v18 =>
          St 3 v18 v190 fun _ =>
          BinI .eql v191 (.int .i64 0) fun v193 =>
          BinI .eql v181 (.int .i64 0) fun v195 =>
          EqB true v193 v195 fun v196 =>
          Cnd v196 (K (.bool false))
          (BinI .add v177 (.int .i64 1) fun v197 =>
          vK_3 [v4_2, v197]))
          (FnV pg (.func (.func 12) #[] #[]) #[] fun v198 =>
          K v198)) w' := by
      intro w' d'
      refine call_of (fun _ _ => rfl) (CloseMany_ok hlen hv64 hT (d'.sel [1, 2]) fun hTc sv' w6 d6 => ?_)
      have d6 : D w0 (Rw 3 1 cv i (ints (cns i l)) :: Tb bB 64 (cloN (rowSq i) (l.map (fv i))) :: L) w6 := (d6.sel [0, 1, 3, 2]).tail.tail
      obtain ⟨p', c', rfl, -⟩ := Rw.shape d6.1
      rw [LenS_s]
      refine ⟨fun vs w' => ∃ (u : Value) (j : Nat), vs = [u, .int .i64 j] ∧ j ≤ i ∧ D w0 (Rw 3 1 (.slice p' i c') i (ints (cns i l)) :: Tb bB 64 (cloN (rowSq i) (l.map (fv i))) :: L) w', fun vs _ => match vs with | [_, .int _ j] => i - j.toNat | _ => 0, ⟨_, 0, rfl, by omega, d6⟩, ?_⟩
      rintro _ w7 ⟨u2, j, rfl, hj, d7⟩ _
      simp +decide only [UN, Cnd_b, BinI_lss, decide_eq_true_eq, decide_eq_false_iff_not]
      refine ⟨fun hjl => ?_, fun _ => last _ [_, _] _ d7 k⟩
      have hj0 : (0 : Int) ≤ j := by omega
      refine read_cnt (cns_len _ _) hj0 hjl d7 ?_
      have hsq3 : IntKind.i64.wrap ((j : Int) * j) = (j : Int) * j := by
        have h1 : (j : Int) * j ≤ 60 * 60 := Int.mul_le_mul (by omega) (by omega) (by omega) (by omega)
        have h2 : 0 ≤ (j : Int) * j := Int.mul_nonneg (by omega) (by omega)
        exact w64 (by omega) (by omega)
      rw [BinI_mul, hsq3]
      refine call_of (fun _ _ => rfl) (Value_ok ?_)
      have hfvj : fv i (j : Int) = hval j ((j : Int) * j) := by unfold fv; rw [if_pos ⟨hj0, hjl⟩]
      have hmem : hval (j : Int) ((j : Int) * j) ∈ l.map (fv i) ↔ (j : Int) ∈ l := by
        rw [← hfvj, List.mem_map]
        constructor
        · rintro ⟨x, hx, e⟩
          have := fv_inj hn ⟨hj0, hjl⟩ (hfair x hx) e
          rw [← this]; exact hx
        · intro h; exact ⟨_, h, rfl⟩
      have hlk : look (cloN (rowSq i) (l.map (fv i))) (hval j ((j : Int) * j)) = if (j : Int) ∈ l then none else some j := by
        rw [look_cloN]
        have h1 := look_fv hn (.inl ⟨hj0, hjl⟩ : fair i (j : Int))
        rw [if_pos ⟨hj0, hjl⟩, hfvj, Int.toNat_natCast] at h1
        by_cases hm2 : (j : Int) ∈ l
        · rw [if_pos (hmem.2 hm2), if_pos hm2]
        · rw [if_neg (fun h => hm2 (hmem.1 h)), if_neg hm2, h1]
      have hcnt : (cns i l)[((j : Int)).toNat]'(by rw [cns_len]; omega) = (l.count (j : Int) : Int) := by rw [cns_get]; simp
      rw [hcnt]
      have nx : ∀ w', D w0 (Rw 3 1 (.slice p' i c') i (ints (cns i l)) :: Tb bB 64 (cloN (rowSq i) (l.map (fv i))) :: L) w' → (∃ (u : Value) (j' : Nat), [u2, Value.int .i64 ((j : Int) + 1)] = [u, .int .i64 j'] ∧ j' ≤ i ∧ D w0 (Rw 3 1 (.slice p' i c') i (ints (cns i l)) :: Tb bB 64 (cloN (rowSq i) (l.map (fv i))) :: L) w') ∧ i - ((j : Int) + 1).toNat < i - (j : Int).toNat :=
        fun w' d' => ⟨⟨u2, j + 1, by simp, by omega, d'⟩, by omega⟩
      refine call_of (fun _ _ => rfl) (Get_ok (hval_i64 _ _) d7.swap (fun hno w8 d8 => ?_) fun p2 hp2 hlp w8 d8 => ?_)
      · have hin : (j : Int) ∈ l := by
          rw [hlk] at hno
          by_cases h : (j : Int) ∈ l
          · exact h
          · rw [if_neg h] at hno; cases hno
        have hc : ((l.count (j : Int) : Nat) : Int) ≠ 0 := by have := List.count_pos_iff.2 hin; omega
        simp +decide only [Ext_20, Ext_21]
        refine d_new [.int .i64 0, .int .i64 0, .int .i64 0] d8 fun b8 w9 d9 => ?_
        refine d_st d9 rfl (by simp []) (ones rfl) fun w10 d10 => ?_
        simp +decide only [Cnd_b, BinI_add, BinI_eql, EqB_b, false_implies, true_and, forall_const, cond_true, hc, hw1 j (by omega)]
        exact nx _ d10.tail.swap
      · have hin : (j : Int) ∉ l := by
          intro h
          rw [hlk, if_pos h] at hlp; cases hlp
        have hc : ((l.count (j : Int) : Nat) : Int) = 0 := by rw [List.count_eq_zero_of_not_mem hin]; rfl
        simp +decide only [Ext_20, Ext_21]
        refine d_new [.int .i64 0, .int .i64 0, .int .i64 0] d8 fun b8 w9 d9 => ?_
        refine d_st d9 rfl (by simp []) (ones rfl) fun w10 d10 => ?_
        simp +decide only [Cnd_b, BinI_add, BinI_eql, EqB_b, false_implies, true_and, forall_const, cond_true, hc, hw1 j (by omega)]
        exact nx _ d10.tail.swap
    refine call_of (fun _ _ => rfl) (Take_ok hlen hv64 hT (d5.sel [1, 2]) (fun hnt w6 d6 => ?_) fun ht hTc sv' w6 d6 => ?_)
    · have hw0 : wh = false := by
        cases hh : wh with
        | false => rfl
        | true => exact absurd ((whole_tak hn hfair).1 (hwh.1 hh)) hnt
      subst hw0
      simp +decide only [Ext_20, Ext_21, LenS_s, Grd_t, Grd_f, BinI_eql, BinI_neq, Un_not, EqB_b, Bool.not_false, false_implies, and_true, true_and, forall_const, cond_true]
      have hci : cnt (rowSq i) = i := by rw [cnt_all (rowSq_ne (by omega)), rowSq_len]
      refine call_of (fun _ _ => rfl) (Count_ok (d6.sel [1]) ?_)
      simp +decide only [Cnd_b, BinI_neq, false_implies, true_and, forall_const, hci]
      exact tailB _ (d6.sel [1, 2, 0, 3]).tail
    · have hw0 : wh = true := hwh.2 ((whole_tak hn hfair).2 ht)
      subst hw0
      simp +decide only [Ext_20, Ext_21, Grd_t, Grd_f, BinI_eql, Un_not, EqB_b, Bool.not_true, false_implies, and_true, true_and, forall_const, cond_true]
      have hci : cnt (cloN (rowSq i) (l.map (fv i))) = (i : Int) - l.length := by
        rw [cnt_cloN _ _ ht, cnt_all (rowSq_ne (by omega)), rowSq_len, List.length_map]
      have d6 : D w0 (Rw 35 3 sv' (l.map (fv i)).length ((clxN (rowSq i) (l.map (fv i))).flatMap ec) :: Rw 3 1 sv (l.map (fv i)).length (ints (l.map (fv i))) :: Tb bA 64 (cloN (rowSq i) (l.map (fv i))) :: Rw 3 1 cv i (ints (cns i l)) :: Tb bB 64 (rowSq i) :: L) w6 := d6
      obtain ⟨p2, c2, rfl, -⟩ := Rw.shape d6.1
      have hll : ((l.map (fv i)).length : Int) = l.length := by rw [List.length_map]
      rw [LenS_s]
      refine ha.len ?_
      simp +decide only [Grd_f, BinI_neq, false_implies, and_true, forall_const, hll]
      refine call_of (fun _ _ => rfl) (Count_ok (d6.sel [2]) ?_)
      refine ha.len ?_
      rw [BinI_sub, w64 (by omega) (by omega)]
      simp +decide only [LenS_s, Grd_t, Grd_f, BinI_neq, Un_not, decide_eq_true_eq, decide_eq_false_iff_not, Bool.not_true, Bool.not_false, Bool.not_eq_eq_eq_not, false_implies, and_true, true_and, forall_const, hci]
      exact tailB _ (d6.sel [0, 2, 3, 1, 4]).tail.tail
end Go.Proofs.Ytgcnebacjkpfmaa
