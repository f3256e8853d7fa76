/- Handles: the law of fewer rights. -/
import Derived.Test.YtgcnebacjkpfmaaHj
set_option maxRecDepth 100000
namespace Go.Proofs.Ytgcnebacjkpfmaa
open Go Go.Jac
theorem tail3 {w0 w : World} {A B X Y : HP} {L : List HP} (d : D w0 (A :: B :: X :: Y :: L) w) : D w0 (A :: B :: L) w := (d.sel [2, 3]).tail.tail
theorem tail3b {w0 w : World} {A B X Y : HP} {L : List HP} (d : D w0 (A :: B :: X :: Y :: L) w) : D w0 (A :: B :: L) w := tail3 d
theorem reduced_ok {w0 w : World} {K : Value → WP} {L : List HP} {a0 : Value} {n : Nat} {first : Int} (ha : OldSl Try.prog w0 51 10 a0 n) (hm : Old w0 ∈ L) (d : D w0 L w) (k : ∀ w', D w0 L w' → K (.bool true) w') :
    Cl pg 7 #[a0, .int .i64 first] K w := by
  refine V.jacinthlaw06_HandlesReduced_ok ?_
  unfold V.jacinthlaw06_HandlesReduced
  have hn := ha.1
  unfold maxLen at hn
  refine call_of (fun _ _ => rfl) (New_ok (by omega) d fun b w1 d1 => ?_)
  have last : ∀ (w' : World) (M : List HP) (K2 : Value → WP), D w0 (M ++ L) w' → (∀ w', D w0 L w' → K2 (.bool true) w') → FnV pg (.func (.func 12) #[] #[]) #[] K2 w' := by
    intro w' M K2 d' k2
    refine call_of (fun _ _ => rfl) (awake_ok d' fun w'' d'' => k2 _ ?_)
    clear d'
    induction M with
    | nil => exact d''
    | cons A M ih => exact ih d''.tail
  simp +decide only [Grd_t, Grd_f, EqP_pn, false_implies, and_true, forall_const]
  refine ha.len ?_
  simp +decide only [Cnd_b, Grd_t, BinI_gtr, EqP_pn, decide_eq_true_eq, decide_eq_false_iff_not, false_implies, and_true, forall_const]
  refine ⟨fun c1 => last _ [_] _ d1 k, fun c1 => ?_⟩
  refine bld_ok (cs := #[.int .i64 1, .int .i64 7, .int .i64 first]) rfl ?_
  refine call_of (fun _ _ => rfl) (Add_first (o := 1) (kd := 7) (r := first) (dr := 5) rfl (by omega) d1 fun w2 d2 => ?_)
  simp +decide only [Ext_20, Ext_21, Cnd_b, BinI_neq, false_implies, true_and, forall_const]
  refine ha.len ?_
  have hI0 : RInv first [⟨hval 0 5, 1, 7, first⟩] := by
    intro p x hx hv
    cases p with
    | zero =>
      obtain rfl := Option.some.inj hx
      have e1 := hplc_hval 0 5 (by omega) (by omega)
      simp [e1, iandNot_self]
    | succ p => simp at hx
  refine ⟨fun vs w' => ∃ (u : Value) (i : Nat) (S : List Slot), vs = [u, .int .i64 i] ∧ i ≤ n ∧ TOk 20 S ∧ RInv first S ∧ D w0 (Tb b 20 S :: L) w', fun vs _ => match vs with | [_, .int _ i] => n - i.toNat | _ => 0, ⟨_, 0, _, rfl, by omega, ⟨by simp, by decide⟩, hI0, d2⟩, ?_⟩
  rintro _ w3 ⟨u, i, S, rfl, hi, hT, hI, d3⟩ _
  simp +decide only [UN, Cnd_b, BinI_lss, decide_eq_true_eq, decide_eq_false_iff_not]
  refine ⟨fun hlt => ?_, fun _ => last _ [_] _ d3 k⟩
  have hw1 : IntKind.i64.wrap ((i : Int) + 1) = i + 1 := w64 (by omega) (by omega)
  have hlt' : i < n := by omega
  obtain ⟨a, hia, vs, hvl, hvc, hrd⟩ := ha.elem (i := (i : Int)) (by omega) hlt
  obtain ⟨x0, x1, x2, x3, x4, x5, x6, x7, x8, x9, rfl, h0, h1, h2, h3, h4, h5, h6, h7, h8, h9⟩ := rd51 hrd
  obtain ⟨sp, sn, sm, rfl⟩ : ∃ p n m, x9 = .slice p n m := by
    rcases h9.slice Try.underlying43 with e | ⟨a, l, c, e, _⟩ <;> cases e <;> exact ⟨_, _, _, rfl⟩
  refine hia _ _ ?_
  refine old_ldN _ d3 (by simp [hm]) rfl hvc ?_
  refine d_new [.int .i64 0, .int .i64 0, .int .i64 0, .int .i64 0, .int .i64 0, .int .i64 0, .int .i64 0, .int .i64 0, .int .i64 0, .slice none 0 0] d3 fun b9 w4 d4 => ?_
  refine d_st d4 rfl (by simp) (ones rfl) fun w5 d5 => ?_
  have d5 : D w0 (cel b9 51 [.int .i64 x0, .int .i64 x1, .int .i64 x2, .int .i64 x3, .int .i64 x4, .int .i64 x5, .int .i64 x6, .int .i64 x7, .int .i64 x8, .slice sp sn sm] :: Tb b 20 S :: L) w5 := d5
  have hS6 : S.length ≤ 65536 := by have := hT.1; omega
  refine call_of (fun _ _ => rfl) (Values_ok hS6 d5.swap fun sv w6 d6 => ?_)
  have d6 : D w0 (cel b9 51 [.int .i64 x0, .int .i64 x1, .int .i64 x2, .int .i64 x3, .int .i64 x4, .int .i64 x5, .int .i64 x6, .int .i64 x7, .int .i64 x8, .slice sp sn sm] :: Rw 3 1 sv (tkn S).length ((tkn S).map fun x => .int .i64 x.v) :: Tb b 20 S :: L) w6 := d6.sel [2, 0, 1]
  obtain ⟨p', c', rfl, -⟩ := Rw.shape d6.swap.1
  -- the round is over: the next one
  have next : ∀ (S' : List Slot) (w' : World) (v4 : Value) , TOk 20 S' → RInv first S' → D w0 (Tb b 20 S' :: L) w' →
      (∃ (u : Value) (i' : Nat) (S : List Slot), [v4, Value.int .i64 ((i : Int) + 1)] = [u, .int .i64 i'] ∧ i' ≤ n ∧ TOk 20 S ∧ RInv first S ∧ D w0 (Tb b 20 S :: L) w') ∧ n - ((i : Int) + 1).toNat < n - (i : Int).toNat :=
    fun S' w' v4 hT' hI' d' => ⟨⟨v4, i + 1, S', by simp, by omega, hT', hI', d'⟩, by omega⟩
  have g6 := d6.get
  simp +decide only [FA_p]
  refine ld1 g6 rfl ?_
  simp +decide only [FA_p, Grd_f, BinI_add, BinI_lss, decide_eq_true_eq, decide_eq_false_iff_not, hw1]
  refine ⟨fun c2 => ?_, fun _ => next S _ _ hT hI d6.tail.tail⟩
  refine ld1 g6 rfl ?_
  rw [LenS_s]
  simp +decide only [FA_p, Cnd_b, BinI_add, BinI_geq, decide_eq_true_eq, decide_eq_false_iff_not, hw1]
  refine ⟨fun _ => next S _ _ hT hI d6.tail.tail, fun c3 => ?_⟩
  have hx0 : 0 ≤ x2 := by omega
  have hx1 : x2 < ((tkn S).length : Int) := by omega
  have hx2 : x2.toNat < (tkn S).length := by omega
  obtain ⟨q, hq, hlq, hqv⟩ := tkn_look hI (List.getElem?_eq_getElem hx2)
  generalize hx : (tkn S)[x2.toNat] = x at hq hlq hqv
  obtain ⟨hp1, hp2, hp3, hp4⟩ := hI q x hq hqv
  obtain ⟨hqlt, hqe⟩ := List.getElem?_eq_some_iff.1 hq
  have hv64 : I64 x.v := hplc_i64 hp1
  -- the value at that number
  have hval : ∃ b1 c1 cs, (Value.slice p' (tkn S).length c' = .slice (some ⟨b1, 0, none⟩) (tkn S).length c1) ∧ hw w6 b1 = some (.cells (cs : List Value).toArray 3 (0, 0)) ∧ cs[x2.toNat]? = some (.int .i64 x.v) := by
    have d7 := d6.swap
    rw [flat_map1] at d7
    obtain ⟨b1, c1, cs, e, g, hc⟩ := rec_at (f := fun x : Slot => [Value.int .i64 x.v]) (es := 1) (S := tkn S) (fun _ => rfl) d7 hx0 hx1
    refine ⟨b1, c1, cs, e, g, ?_⟩
    have := hc 0 (.int .i64 x.v) (by rw [hx]; rfl)
    simpa using this
  obtain ⟨b1, c1, cs, e, g1, hc1⟩ := hval
  cases e
  refine ld1 g6 rfl ?_
  refine ia0 hx0 hx1 ?_
  simp only [Nat.mul_one]
  refine ld1 g1 hc1 ?_
  refine call_of (fun _ _ => rfl) (Get_ok hv64 (d6.sel [2]) (fun hno => by rw [hlq] at hno; cases hno) fun q2 hq2 hl2 w7 d7 => ?_)
  rw [hlq] at hl2
  cases hl2
  rw [hqe]
  simp +decide only [Ext_20, Ext_21]
  refine d_new [.int .i64 0, .int .i64 0, .int .i64 0] d7 fun b11 w8 d8 => ?_
  refine d_st d8 rfl (by simp []) (ones rfl) fun w9 d9 => ?_
  have d9 : D w0 (cel b11 35 [.int .i64 x.o, .int .i64 x.k, .int .i64 x.r] :: Tb b 20 S :: cel b9 51 [.int .i64 x0, .int .i64 x1, .int .i64 x2, .int .i64 x3, .int .i64 x4, .int .i64 x5, .int .i64 x6, .int .i64 x7, .int .i64 x8, .slice sp sn sm] :: Rw 3 1 (.slice (some ⟨b1, 0, none⟩) (tkn S).length c') (tkn S).length ((tkn S).map fun x => .int .i64 x.v) :: L) w9 := d9
  intro K' hK
  -- behind the call: what is told, looked at
  have fin : ∀ (u : Value) (v s : Int) (S' : List Slot) (w' : World), TOk 20 S' → RInv first S' → I64 v →
      (s = 0 → ∃ q y, look S' v = some q ∧ S'[q]? = some y ∧ y.o = 1 ∧ y.k = 7 ∧ iandNot .i64 y.r x.r = 0 ∧ iandNot .i64 y.r first = 0) →
      D w0 (cel b11 35 [.int .i64 x.o, .int .i64 x.k, .int .i64 x.r] :: Tb b 20 S' :: L) w' → K' [u, .int .i64 v, .int .i64 s] w' := by
    intro u v s S' w' hT' hI' hv hs d'
    refine hK _ _ ?_
    intro _
    simp +decide only [UN, Cnd_b, BinI_add, BinI_neq, decide_eq_true_eq, decide_eq_false_iff_not, Bool.not_true, Bool.not_false, Bool.not_eq_eq_eq_not, hw1]
    refine ⟨fun _ => next S' _ _ hT' hI' d'.tail, fun h0 => ?_⟩
    obtain ⟨q', y, hl, hy, hy1, hy2, hy3, hy4⟩ := hs h0
    obtain ⟨hylt, hye⟩ := List.getElem?_eq_some_iff.1 hy
    refine call_of (fun _ _ => rfl) (Get_ok hv d'.swap (fun hno => by rw [hl] at hno; cases hno) fun q2 hq2 hl2 w7 d7 => ?_)
    rw [hl] at hl2
    cases hl2
    rw [hye]
    simp +decide only [Ext_20, Ext_21]
    refine d_new [.int .i64 0, .int .i64 0, .int .i64 0] d7 fun b15 w8 d8 => ?_
    refine d_st d8 rfl (by simp []) (ones rfl) fun w9 d9 => ?_
    have d9 : D w0 (cel b15 35 [.int .i64 y.o, .int .i64 y.k, .int .i64 y.r] :: Tb b 20 S' :: cel b11 35 [.int .i64 x.o, .int .i64 x.k, .int .i64 x.r] :: L) w9 := d9
    have g15 := d9.get
    have g11 := (D.sel [2] d9).get
    simp +decide only [FA_p, Grd_f, BinI_neq, false_implies, and_true, forall_const]
    refine ld1 g11 rfl ?_
    simp +decide only [FA_p]
    refine ld1 g15 rfl ?_
    refine call_of (fun _ _ => rfl) (Has_ok ?_)
    simp +decide only [FA_p, Grd_f, Un_not, false_implies, and_true, forall_const, hy3]
    refine ld1 g15 rfl ?_
    refine call_of (fun _ _ => rfl) (Has_ok ?_)
    simp +decide only [FA_p, Grd_f, Un_not, false_implies, and_true, forall_const, hy4]
    refine ld1 g15 rfl ?_
    simp +decide only [FA_p, Grd_f, BinI_neq, false_implies, and_true, forall_const, hy1]
    refine ld1 g15 rfl ?_
    simp +decide only [Cnd_b, BinI_add, BinI_neq, false_implies, true_and, forall_const, hy2, hw1]
    exact next S' _ _ hT' hI' (D.sel [1] d9).tail2.tail2
  have hv9 : ∀ {M : List HP} {w' : World}, D w0 (Rw 3 1 (.slice (some ⟨b1, 0, none⟩) (tkn S).length c') (tkn S).length ((tkn S).map fun x => .int .i64 x.v) :: M) w' → ∃ cs : List Value, hw w' b1 = some (.cells cs.toArray 3 (0, 0)) ∧ cs[0 + x2.toNat * 1]? = some (.int .i64 x.v) := by
    intro M w' d7
    rw [flat_map1] at d7
    obtain ⟨b2, c2, cs, e, g, hc⟩ := rec_at (f := fun x : Slot => [Value.int .i64 x.v]) (es := 1) (S := tkn S) (fun _ => rfl) d7 hx0 hx1
    injection e with e1
    cases e1
    refine ⟨cs, g, ?_⟩
    have := hc 0 (.int .i64 x.v) (by rw [hx]; rfl)
    simpa using this
  have hfr : fre S < 65536 := by have := fre_le S; have := hT.1; omega
  have done : ∀ (S' : List Slot) (want dr : Int) (w' : World), TOk 20 S' → cnt S' ≠ 20 → RInv first S' → redS x.r want = 0 →
      D w0 (Tb b 20 (adS S' ⟨hval (fre S') dr, x.o, x.k, redR x.r want⟩) :: cel b11 35 [.int .i64 x.o, .int .i64 x.k, .int .i64 x.r] :: L) w' → K' [u, .int .i64 (hval (fre S') dr), .int .i64 0] w' := by
    intro S' want dr w' hT' hc' hI' hr d'
    have hfr' : fre S' < 65536 := by have := fre_le S'; have := hT'.1; omega
    have hsub := red_sub hr
    have hsub2 := iandNot_trans hsub hp4
    have hne : hval ((fre S' : Nat) : Int) dr ≠ 0 := hval_ne ⟨by omega, by omega⟩
    have hTT := (adS_ok' (o := x.o) (kd := x.k) (r := redR x.r want) hne hT' hc').1
    have hII := hI'.ad hfr' (dr := dr) (r := redR x.r want) hsub2
    have hpl := hplc_hval (fre S' : Int) dr (by omega) (by omega)
    have hgt := adS_get S' ⟨hval (fre S') dr, x.o, x.k, redR x.r want⟩ (fre S')
    rw [if_pos rfl] at hgt
    rw [hp2, hp3] at hgt hTT
    have d2 : D w0 (cel b11 35 [.int .i64 x.o, .int .i64 x.k, .int .i64 x.r] :: Tb b 20 (adS S' ⟨hval (fre S') dr, 1, 7, redR x.r want⟩) :: L) w' := by
      rw [← hp2, ← hp3]; rw [hp2, hp3] at d' ⊢; exact d'.swap
    refine fin u _ 0 _ w' hTT hII (hval_i64 _ _) (fun _ => ⟨fre S', _, look_of hgt hpl (by dsimp only), hgt, rfl, rfl, hsub, hsub2⟩) d2
  have g9 := (D.sel [2] d9).get
  simp +decide only [FA_p]
  refine ld1 g9 rfl ?_
  simp +decide only [Cnd_b, BinI_eql, decide_eq_true_eq, decide_eq_false_iff_not]
  refine ⟨fun h70 => ?_, fun h70 => ?_⟩
  · have d10 := d9.drawn
    have g10 := (D.sel [2] d10).get
    obtain ⟨cv, gv, hcv⟩ := hv9 (D.sel [3] d10)
    refine qt (qe_fa (qe_ld1 g10 rfl (qe_ia hx0 hx1 (qe_ld1 gv hcv (qe_fa (qe_ld1 g10 rfl (qe_fa (qe_ld1 g10 rfl (qend ?_)))))))))
    refine call_of (fun _ _ => rfl) (Duplicate_ok hv64 hT (D.sel [1, 0] d10) (fun s w' hs d' => ?_) fun p hp hl hf hr hc w' d' => ?_)
    · refine qt (qe_ext (v := .int .i64 0) rfl (qe_ext (v := .int .i64 s) rfl (qend ?_)))
      simp +decide only [FA_p, Grd_t, BinI_eql, decide_eq_true_eq, decide_eq_false_iff_not]
      refine ⟨fun h => absurd h hs, fun _ => ?_⟩
      exact fin u 0 s S w' hT hI ⟨by decide, by decide⟩ (fun h => absurd h hs) (tail3 d'.swap)
    · refine qt (qe_ext (v := .int .i64 (hval (fre S) x5)) rfl (qe_ext (v := .int .i64 0) rfl (qend ?_)))
      rw [hlq] at hl
      cases hl
      rw [hqe] at hf hr d'
      simp +decide only [FA_p, Grd_t, BinI_eql, false_implies, and_true, forall_const]
      have h1r : iandNot .i64 1 x.r = 0 := by
        unfold findS at hf
        rw [if_neg (by simp)] at hf
        by_cases e : iandNot .i64 1 x.r = 0
        · exact e
        · rw [if_neg e] at hf; omega
      refine ld1 d'.swap.get rfl ?_
      refine call_of (fun _ _ => rfl) (Has_ok ?_)
      simp +decide only [Cnd_b, Un_not, false_implies, true_and, forall_const, h1r]
      exact done S x4 x5 w' hT hc hI hr (tail3b d')
  · have d10 := d9.drawn
    have g10 := (D.sel [2] d10).get
    obtain ⟨cv, gv, hcv⟩ := hv9 (D.sel [3] d10)
    refine qt (qe_fa (qe_ld1 g10 rfl (qe_ia hx0 hx1 (qe_ld1 gv hcv (qe_fa (qe_ld1 g10 rfl (qe_fa (qe_ld1 g10 rfl (qend ?_)))))))))
    refine call_of (fun _ _ => rfl) (Replace_ok hv64 hT (D.sel [1, 0] d10) (fun hno => by rw [hlq] at hno; cases hno) (fun p hp hl hr hT' w' d' => ?_) fun p hp hl hr hT' hc' w' d' => ?_)
    · rw [hlq] at hl
      cases hl
      rw [hqe] at hr
      refine qt (qe_ext (v := .int .i64 0) rfl (qe_ext (v := x.ent) (by rw [← hqe]; rfl) (qe_ext (v := .int .i64 (redS x.r x4)) (by rw [← hqe]; rfl) (qend ?_))))
      exact fin u 0 _ _ w' hT' (hI.set0 _) ⟨by decide, by decide⟩ (fun h => absurd h hr) (tail3 d'.swap)
    · rw [hlq] at hl
      cases hl
      rw [hqe] at hr d'
      refine qt (qe_ext (v := .int .i64 (hval (fre (S.set q ⟨0, 0, 0, 0⟩)) x5)) rfl (qe_ext (v := ent 0 0 0) rfl (qe_ext (v := .int .i64 0) rfl (qend ?_))))
      exact done _ x4 x5 w' hT' hc' (hI.set0 _) hr (tail3b d')
end Go.Proofs.Ytgcnebacjkpfmaa
