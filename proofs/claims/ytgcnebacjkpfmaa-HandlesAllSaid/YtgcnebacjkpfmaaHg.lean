/- Handles: the law of the lowest place. -/
import Derived.Test.YtgcnebacjkpfmaaHf
set_option maxRecDepth 100000
namespace Go.Proofs.Ytgcnebacjkpfmaa
open Go Go.Jac
theorem fre_all {S : List Slot} (h : ∀ x ∈ S, x.v ≠ 0) : fre S = S.length := by
  induction S with
  | nil => rfl
  | cons x r ih =>
    simp only [fre, List.length_cons]
    rw [if_neg (h x (by simp)), ih fun y hy => h y (by simp [hy])]
theorem fre_hole {S : List Slot} (h : ∀ x ∈ S, x.v ≠ 0) {p : Nat} (hp : p < S.length) (z : Slot) (hz : z.v = 0) : fre (S.set p z) = p := by
  induction S generalizing p with
  | nil => simp at hp
  | cons x r ih =>
    cases p with
    | zero => simp [fre, hz]
    | succ p =>
      simp only [List.set_cons_succ, fre]
      rw [if_neg (h x (by simp)), ih (fun y hy => h y (by simp [hy])) (by simpa using hp)]
def rowOf (one : Int) (i : Nat) : List Slot := (List.range i).map fun (j : Nat) => ⟨hval j one, j, 0, 0⟩
theorem rowOf_len (one : Int) (i : Nat) : (rowOf one i).length = i := by simp [rowOf]
theorem rowOf_succ (one : Int) (i : Nat) : rowOf one (i + 1) = rowOf one i ++ [⟨hval i one, i, 0, 0⟩] := by simp [rowOf, List.range_succ]
theorem rowOf_ne {one : Int} {i : Nat} (hi : i ≤ 65536) : ∀ x ∈ rowOf one i, x.v ≠ 0 := by
  intro x hx
  simp only [rowOf, List.mem_map, List.mem_range] at hx
  obtain ⟨j, hj, rfl⟩ := hx
  have h := hval_ne (a := (j : Int)) (d := one) ⟨by omega, by omega⟩
  simpa using h
theorem rowOf_get {one : Int} {i j : Nat} (h : j < (rowOf one i).length) : (rowOf one i)[j] = ⟨hval j one, j, 0, 0⟩ := by simp [rowOf]
theorem cnt_all {S : List Slot} (h : ∀ x ∈ S, x.v ≠ 0) : cnt S = S.length := by
  unfold cnt
  rw [List.countP_eq_length.2 fun x hx => by simpa using h x hx]
theorem look_at {S : List Slot} {v : Int} {p : Nat} (hp : p < S.length) (h1 : hplc v = p) : look S v = if S[p].v = v then some p else none := by
  unfold look
  rw [dif_pos (by omega)]
  simp [h1]
theorem look_set {S : List Slot} {v : Int} {p : Nat} (v' o k r : Int) (hp : p < S.length) (h1 : hplc v = p) : look (S.set p ⟨v', o, k, r⟩) v = if v' = v then some p else none := by
  rw [look_at (by simpa using hp) h1, List.getElem_set_self]
theorem hval_eq {a x y : Int} (h : 0 ≤ a ∧ a < 65536) : hval a x = hval a y ↔ x % 65536 = y % 65536 := by
  unfold hval; rw [if_pos h, if_pos h]; omega
theorem lowest_ok {w0 w : World} {K : Value → WP} {L : List HP} {n pt one two : Int} (hn : I64 n) (hp : I64 pt) (d : D w0 L w) (k : ∀ w', D w0 L w' → K (.bool true) w') :
    Cl pg 4 #[.agg #[.int .i64 n, .int .i64 pt, .int .i64 one, .int .i64 two]] K w := by
  refine V.jacinthlaw06_HandlesLowest_ok ?_
  unfold V.jacinthlaw06_HandlesLowest
  refine d_new' [.int .i64 n, .int .i64 pt, .int .i64 one, .int .i64 two] rfl d fun bz w1 d1 => ?_
  have d1 := d1.drawn
  have g1 := d1.get
  refine qt (qe_fa (qe_ld1 g1 rfl (qe_fa (qe_ld1 g1 rfl (qe_fa (qe_ld1 g1 rfl (qe_fa (qe_ld1 g1 rfl (qend ?_)))))))))
  have d2 := d1.tail
  refine call_of (fun _ _ => rfl) (New_ok (by omega) d2 fun b w2 d3 => ?_)
  have last : ∀ (w' : World) (M : List HP) (K2 : Value → WP), D w0 (M ++ L) w' → (∀ w', D w0 L w' → K2 (.bool true) w') → FnV pg (.func (.func 12) #[] #[]) #[] K2 w' := by
    intro w' M K2 d' k2
    refine call_of (fun _ _ => rfl) (awake_ok d' fun w'' d'' => k2 _ ?_)
    clear d'
    induction M with
    | nil => exact d''
    | cons A M ih => exact ih d''.tail
  simp +decide only [Cnd_b, Grd_t, Grd_f, BinI_lss, BinI_gtr, BinI_geq, EqP_pn, decide_eq_true_eq, decide_eq_false_iff_not, false_implies, and_true, forall_const]
  refine ⟨fun c1 => ⟨fun c2 => ⟨fun c3 => ⟨fun c4 => ?_, fun c4 => ?_⟩, fun c3 => ?_⟩, fun c2 => ?_⟩, fun c1 => ?_⟩
  · exact last _ [_] _ d3 k
  · refine ⟨fun vs w' => ∃ (u : Value) (i : Nat), vs = [u, .int .i64 i] ∧ (i : Int) ≤ n ∧ D w0 (Tb b 32 (rowOf one i) :: L) w', fun vs _ => match vs with | [_, .int _ i] => n.toNat - i.toNat | _ => 0, ⟨_, 0, rfl, by omega, d3⟩, ?_⟩
    rintro _ w3 ⟨u, i, rfl, hi, d4⟩ _
    have hne := rowOf_ne (one := one) (i := i) (by omega)
    have hlen := rowOf_len one i
    simp +decide only [UN, Cnd_b, BinI_lss, decide_eq_true_eq, decide_eq_false_iff_not]
    refine ⟨fun hlt => ?_, fun hge => ?_⟩
    · refine bld_ok (cs := #[.int .i64 i, .int .i64 0, .int .i64 0]) rfl ?_
      refine call_of (fun _ _ => rfl) (Add_ok (o := i) (kd := 0) (r := 0) rfl ⟨by rw [hlen]; omega, by decide⟩ (by rw [cnt_all hne, hlen]; omega) d4 fun w4 d5 => ?_)
      have hf : fre (rowOf one i) = i := by rw [fre_all hne, hlen]
      have hS : adS (rowOf one i) ⟨hval i one, i, 0, 0⟩ = rowOf one (i + 1) := by
        rw [rowOf_succ]; unfold adS; rw [if_neg (by rw [hf, hlen]; omega)]
      rw [hf, hS] at d5
      rw [hf]
      simp +decide only [Ext_20, Ext_21, Grd_f, BinI_neq, false_implies, and_true, forall_const]
      refine call_of (fun _ _ => rfl) (Place_ok (hval_i64 _ _) ?_)
      simp +decide only [Cnd_b, BinI_add, BinI_neq, decide_eq_true_eq, decide_eq_false_iff_not, Bool.not_true, Bool.not_false, Bool.not_eq_eq_eq_not]
      refine ⟨fun h => absurd (hplc_hval i one (by omega) (by omega)) h, fun _ => ?_⟩
      rw [w64 (by omega) (by omega)]
      exact ⟨⟨u, i + 1, by simp, by omega, d5⟩, by show n.toNat - ((i : Int) + 1).toNat < n.toNat - (i : Int).toNat; omega⟩
    · have hin : (i : Int) = n := by omega
      obtain ⟨p, rfl⟩ : ∃ p : Nat, pt = p := ⟨pt.toNat, by omega⟩
      have hpi : p < (rowOf one i).length := by rw [hlen]; omega
      have hpl : ∀ x, hplc (hval p x) = p := fun x => hplc_hval p x (by omega) (by omega)
      refine call_of (fun _ _ => rfl) (Value_ok ?_)
      have hl : look (rowOf one i) (hval p one) = some p := by rw [look_at hpi (hpl _), rowOf_get, if_pos rfl]
      refine call_of (fun _ _ => rfl) (Close_ok (hval_i64 _ _) ⟨by rw [hlen]; omega, by decide⟩ d4 (fun hx => by rw [hl] at hx; cases hx) fun q hq hlq hT w4 d5 => ?_)
      rw [hl] at hlq
      cases hlq
      simp +decide only [Ext_20, Ext_21]
      refine d_new [.int .i64 0, .int .i64 0, .int .i64 0] d5 fun be w5 d6 => ?_
      refine d_st d6 rfl (by simp []) (ones rfl) fun w6 d7 => ?_
      have d7 := d7.tail
      simp +decide only [Cnd_b, BinI_neq, false_implies, true_and, forall_const]
      refine bld_ok (cs := #[.int .i64 99, .int .i64 0, .int .i64 0]) rfl ?_
      have hf : fre ((rowOf one i).set p ⟨0, 0, 0, 0⟩) = p := fre_hole hne hpi _ rfl
      have hcn : cnt ((rowOf one i).set p ⟨0, 0, 0, 0⟩) ≠ 32 := by
        have := cnt_le ((rowOf one i).set p ⟨0, 0, 0, 0⟩)
        simp [hlen] at this
        omega
      refine call_of (fun _ _ => rfl) (Add_ok (o := 99) (kd := 0) (r := 0) rfl hT hcn d7 fun w7 d8 => ?_)
      have hS : adS ((rowOf one i).set p ⟨0, 0, 0, 0⟩) ⟨hval p two, 99, 0, 0⟩ = (rowOf one i).set p ⟨hval p two, 99, 0, 0⟩ := by
        unfold adS; rw [if_pos (by rw [hf]; simpa using hpi), hf, List.set_set]
      rw [hf, hS] at d8
      rw [hf]
      simp +decide only [Ext_20, Ext_21, Grd_f, BinI_neq, false_implies, and_true, forall_const]
      refine call_of (fun _ _ => rfl) (Place_ok (hval_i64 _ _) ?_)
      simp +decide only [Cnd_b, Grd_f, BinI_and, BinI_eql, BinI_neq, EqB_b, decide_eq_true_eq, decide_eq_false_iff_not, Bool.not_true, Bool.not_false, Bool.not_eq_eq_eq_not, cond_true]
      refine ⟨fun _ => ?_, fun h => absurd (hpl _) h⟩
      have e1 : iand .i64 one 65535 = one % 65536 := iand_mask one 16 (by omega) 65535 (by decide)
      have e2 : iand .i64 two 65535 = two % 65536 := iand_mask two 16 (by omega) 65535 (by decide)
      have hq := hval_eq (a := (p : Int)) (x := two) (y := one) (by omega)
      have hdec : decide (hval (p : Int) two = hval p one) = decide (one % 65536 = two % 65536) := by
        rw [decide_eq_decide, hq]; exact ⟨Eq.symm, Eq.symm⟩
      rw [e1, e2, hdec]
      refine ⟨fun h => by simp at h, fun _ => ?_⟩
      have hps : p < ((rowOf one i).set p ⟨hval p two, 99, 0, 0⟩).length := by simpa using hpi
      refine call_of (fun _ _ => rfl) (Get_ok (hval_i64 _ _) d8 (fun hx w8 d9 => ?_) fun q hq9 hlq w8 d9 => ?_)
      · have hno : ¬ hval (p : Int) two = hval p one := by
          intro e
          rw [look_set _ _ _ _ hpi (hpl one)] at hx
          simp [e] at hx
        simp +decide only [Ext_20, Ext_21]
        refine d_new [.int .i64 0, .int .i64 0, .int .i64 0] d9 fun be w9 d10 => ?_
        refine d_st d10 rfl (by simp []) (ones rfl) fun w10 d11 => ?_
        simp +decide only [FA_p, Grd_t, Grd_f, BinI_eql, BinI_neq, EqB_b, false_implies, and_true, true_and, forall_const, cond_false, hno]
        exact last _ [_, _] _ d11 k
      · have hyes : hval (p : Int) two = hval p one ∧ q = p := by
          rw [look_set _ _ _ _ hpi (hpl one)] at hlq
          by_cases e : hval (p : Int) two = hval p one
          · simp [e] at hlq
            exact ⟨e, hlq.symm⟩
          · simp [e] at hlq
        obtain ⟨hyes, rfl⟩ := hyes
        simp +decide only [Ext_20, Ext_21]
        refine d_new [.int .i64 0, .int .i64 0, .int .i64 0] d9 fun be w9 d10 => ?_
        rw [List.getElem_set_self]
        refine d_st d10 rfl (by simp []) (ones rfl) fun w10 d11 => ?_
        simp +decide only [FA_p, Grd_t, Grd_f, BinI_eql, BinI_neq, EqB_b, false_implies, and_true, forall_const, cond_false, hyes]
        refine ld1 d11.get rfl ?_
        simp +decide only [Grd_t, BinI_eql, false_implies, and_true, forall_const]
        exact last _ [_, _] _ d11 k
  · exact last _ [_] _ d3 k
  · exact last _ [_] _ d3 k
  · exact last _ [_] _ d3 k
end Go.Proofs.Ytgcnebacjkpfmaa
