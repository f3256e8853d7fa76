/- Handles: the law of finding. -/
import Derived.Test.YtgcnebacjkpfmaaHe
set_option maxRecDepth 100000
namespace Go.Proofs.Ytgcnebacjkpfmaa
open Go Go.Jac
theorem eq3 {w : World} {K : Value → WP} {n : Bool} {a b c x y z : Int} (k : K (.bool (cond n (!decide (a = x ∧ b = y ∧ c = z)) (decide (a = x ∧ b = y ∧ c = z)))) w) :
    EqS 3 n (ent a b c) (ent x y z) K w := by
  refine EqS_mk (r := decide (a = x ∧ b = y ∧ c = z)) (xs := [.int .i64 a, .int .i64 b, .int .i64 c]) (ys := [.int .i64 x, .int .i64 y, .int .i64 z]) ?_ rfl rfl k
  simp only [intsEq, Bool.decide_and, if_true, Option.map_some, Bool.and_true]; rfl
theorem hval_i64 (a d : Int) : I64 (hval a d) := by unfold I64 hval; split <;> omega
theorem Add_first {w0 w : World} {L : List HP} {K : Value → WP} {b : Nat} {cap o kd r dr : Int} {e : Value} (he : e = .agg #[.int .i64 o, .int .i64 kd, .int .i64 r]) (hc : 0 < cap ∧ cap ≤ 65536) (d : D w0 (Tb b cap [] :: L) w)
    (k : ∀ w', D w0 (Tb b cap [⟨hval 0 dr, o, kd, r⟩] :: L) w' → K (.tuple #[.int .i64 (hval 0 dr), .int .i64 0]) w') : Cl pg 14 #[.pointer (some ⟨b, 0, none⟩), e, .int .i64 dr] K w := by
  refine Add_ok he ⟨by simp; omega, hc.2⟩ (by simp [cnt]; omega) d fun w' d' => ?_
  simp only [adS, fre, List.length_nil, Nat.lt_irrefl, if_false, List.nil_append, Int.ofNat_zero] at d' ⊢
  exact k _ d'
theorem hval_first (dr : Int) : ∃ h, hval 0 dr = h ∧ hplc h = 0 ∧ hplc (h + 4) = 1 ∧ 0 ≤ h ∧ h < 68719476736 := by
  have h1 : hval 0 dr + 4 = hval 1 dr := by unfold hval; rw [if_pos (by omega), if_pos (by omega)]; omega
  have hvb : 0 ≤ hval 0 dr ∧ hval 0 dr < 68719476736 := by unfold hval; rw [if_pos (by omega)]; omega
  exact ⟨_, rfl, hplc_hval 0 dr (by omega) (by omega), by rw [h1]; exact hplc_hval 1 dr (by omega) (by omega), hvb.1, hvb.2⟩
theorem look1 {x : Slot} {v : Int} (h : hplc v = 0) (hv : x.v = v) : look [x] v = some 0 := by
  unfold look
  rw [dif_pos (by rw [h]; simp)]
  simp [h, hv]
theorem look2 {x : Slot} {v : Int} (h : hplc v = 1) : look [x] v = none := by
  unfold look
  rw [dif_neg (by rw [h]; simp)]
theorem finds_ok {w0 w : World} {K : Value → WP} {L : List HP} {o kd r dr kind need : Int} (d : D w0 L w) (k : ∀ w', D w0 L w' → K (.bool true) w') :
    Cl pg 5 #[.agg #[.int .i64 o, .int .i64 kd, .int .i64 r, .int .i64 dr, .int .i64 kind, .int .i64 need]] K w := by
  refine V.jacinthlaw06_HandlesFinds_ok ?_
  unfold V.jacinthlaw06_HandlesFinds
  refine d_new' [.int .i64 o, .int .i64 kd, .int .i64 r, .int .i64 dr, .int .i64 kind, .int .i64 need] rfl d fun bz w1 d1 => ?_
  refine call_of (fun _ _ => rfl) (New_ok (by omega) d1 fun b w2 d2 => ?_)
  simp +decide only [FA_p, Cnd_b, EqP_pn, false_implies, true_and, forall_const]
  have gz : ∀ {M : List HP} {w : World}, D w0 (cel bz 40 [.int .i64 o, .int .i64 kd, .int .i64 r, .int .i64 dr, .int .i64 kind, .int .i64 need] :: M) w → hw w bz = some (.cells [.int .i64 o, .int .i64 kd, .int .i64 r, .int .i64 dr, .int .i64 kind, .int .i64 need].toArray 40 (0, 0)) := fun d => d.get
  refine ldN d2.swap.get [.int .i64 o, .int .i64 kd, .int .i64 r] rfl (fun j x hx => ?_) ?_
  · have hj := (List.getElem?_eq_some_iff.1 hx).1
    rw [Nat.zero_add, ← hx]
    match j, hj with
    | 0, _ => rfl
    | 1, _ => rfl
    | 2, _ => rfl
  simp +decide only [FA_p]
  refine ld1 d2.swap.get rfl ?_
  refine call_of (fun _ _ => rfl) (Add_first (o := o) (kd := kd) (r := r) (dr := dr) rfl (by omega) d2 fun w3 d3 => ?_)
  obtain ⟨h, hh, hp0, hp1, hvb⟩ := hval_first dr
  rw [hh] at d3 ⊢
  have hl : look [⟨h, o, kd, r⟩] h = some 0 := look1 hp0 rfl
  have hl4 : look [⟨h, o, kd, r⟩] (h + 4) = none := look2 hp1
  simp +decide only [FA_p, Ext_20, Ext_21]
  refine ld1 d3.swap.get rfl ?_
  simp +decide only [FA_p]
  refine ld1 d3.swap.get rfl ?_
  refine call_of (fun _ _ => rfl) (Find_ok (by unfold I64; omega) d3 (fun hn => ?_) fun p hp hlp w4 d4 => ?_)
  · rw [hl] at hn; cases hn
  rw [hl] at hlp
  cases hlp
  rw [List.getElem_cons_zero]
  simp +decide only [Ext_20, Ext_21]
  generalize hf : findS ⟨h, o, kd, r⟩ kind need = f
  refine d_new [.int .i64 0, .int .i64 0, .int .i64 0] d4 fun be w5 d5 => ?_
  have fin : ∀ w', D w0 (Tb b 2 [⟨h, o, kd, r⟩] :: cel bz 40 [.int .i64 o, .int .i64 kd, .int .i64 r, .int .i64 dr, .int .i64 kind, .int .i64 need] :: L) w' → 
      Cl pg 17 #[.pointer (some ⟨b, 0, none⟩), .int .i64 (h + 4), .int .i64 kind, .int .i64 need] (fun v w' => v = .tuple #[ent 0 0 0, .int .i64 (-11)] ∧ D w0 (Tb b 2 [⟨h, o, kd, r⟩] :: cel bz 40 [.int .i64 o, .int .i64 kd, .int .i64 r, .int .i64 dr, .int .i64 kind, .int .i64 need] :: L) w') w' := by
    intro w' d'
    refine Find_ok (by unfold I64; omega) d' (fun _ w'' d'' => ⟨rfl, d''⟩) fun p hp hlp => ?_
    rw [hl4] at hlp; cases hlp
  have tail : ∀ (w' : World) (K2 : Value → WP), D w0 (Tb b 2 [⟨h, o, kd, r⟩] :: cel bz 40 [.int .i64 o, .int .i64 kd, .int .i64 r, .int .i64 dr, .int .i64 kind, .int .i64 need] :: L) w' →
      (∀ w', D w0 (Tb b 2 [⟨h, o, kd, r⟩] :: cel bz 40 [.int .i64 o, .int .i64 kd, .int .i64 r, .int .i64 dr, .int .i64 kind, .int .i64 need] :: L) w' → K2 (.tuple #[ent 0 0 0, .int .i64 (-11)]) w') →
      FnV pg (.func (.func 17) #[] #[]) #[.pointer (some ⟨b, 0, none⟩), .int .i64 (h + 4), .int .i64 kind, .int .i64 need] K2 w' := by
    intro w' K2 d' k2
    exact call_of (fun _ _ => rfl) ((fin w' d').mono fun v w'' ⟨e, d''⟩ => e ▸ k2 w'' d'')
  obtain ⟨eo, ek, er, hE, hE0, hE1⟩ : ∃ eo ek er, (if f = 0 then Slot.ent ⟨h, o, kd, r⟩ else ent 0 0 0) = ent eo ek er ∧ (f = 0 → eo = o ∧ ek = kd ∧ er = r) ∧ (f ≠ 0 → eo = 0 ∧ ek = 0 ∧ er = 0) := by
    by_cases h0 : f = 0
    · exact ⟨o, kd, r, by rw [if_pos h0]; rfl, fun _ => ⟨rfl, rfl, rfl⟩, fun h1 => absurd h0 h1⟩
    · exact ⟨0, 0, 0, by rw [if_neg h0], fun h1 => absurd h1 h0, fun _ => ⟨rfl, rfl, rfl⟩⟩
  rw [hE]
  refine d_st d5 rfl (by simp) (ones rfl) fun w6 d6 => ?_
  have d6 : D w0 (cel be 35 [.int .i64 eo, .int .i64 ek, .int .i64 er] :: Tb b 2 [⟨h, o, kd, r⟩] :: cel bz 40 [.int .i64 o, .int .i64 kd, .int .i64 r, .int .i64 dr, .int .i64 kind, .int .i64 need] :: L) w6 := d6
  simp +decide only [Cnd_b, BinI_neq, false_implies, true_and, forall_const]
  have gz6 := (D.pick 2 d6).get
  intro K' hK
  have last : ∀ (w' : World) (K2 : Value → WP), D w0 (Tb b 2 [⟨h, o, kd, r⟩] :: cel bz 40 [.int .i64 o, .int .i64 kd, .int .i64 r, .int .i64 dr, .int .i64 kind, .int .i64 need] :: L) w' → (∀ w', D w0 L w' → K2 (.bool true) w') → FnV pg (.func (.func 12) #[] #[]) #[] K2 w' :=
    fun w' K2 d' k2 => call_of (fun _ _ => rfl) (awake_ok d' fun w'' d'' => k2 _ d''.tail.tail)
  have key : K' [.int .i64 f] w6 := by
    refine hK _ _ ?_
    intro _
    simp +decide only [UN, FA_p, Grd_t, Grd_f, BinI_add, BinI_eql, BinI_neq, decide_eq_true_eq, decide_eq_false_iff_not, Bool.not_true, Bool.not_false, Bool.not_eq_eq_eq_not, false_implies, and_true, forall_const]
    have done : ∀ (Kx : Value → WP), (∀ w', D w0 (Tb b 2 [⟨h, o, kd, r⟩] :: cel bz 40 [.int .i64 o, .int .i64 kd, .int .i64 r, .int .i64 dr, .int .i64 kind, .int .i64 need] :: L) w' → Kx (.tuple #[ent 0 0 0, .int .i64 (-11)]) w') → FnV pg (.func (.func 17) #[] #[]) #[.pointer (some ⟨b, 0, none⟩), .int .i64 (h + 4), .int .i64 kind, .int .i64 need] Kx w6 :=
      fun Kx kx => tail w6 Kx d6.tail kx
    have wr : IntKind.i64.wrap (h + 4) = h + 4 := w64 (by omega) (by omega)
    refine ⟨fun h0 => ?_, fun h0 => ?_⟩
    · obtain ⟨rfl, rfl, rfl⟩ := hE0 h0
      refine ldAll d6.get rfl ?_
      simp +decide only [FA_p]
      refine ldN gz6 [.int .i64 eo, .int .i64 ek, .int .i64 er] rfl (fun j x hx => ?_) ?_
      · have hj := (List.getElem?_eq_some_iff.1 hx).1
        rw [Nat.zero_add, ← hx]
        match j, hj with
        | 0, _ => rfl
        | 1, _ => rfl
        | 2, _ => rfl
      refine eq3 ?_
      simp +decide only [FA_p, Grd_t, Grd_f, BinI_add, BinI_neq, false_implies, and_true, true_and, forall_const, cond_true, and_self, h0]
      refine ld1 gz6 rfl ?_
      simp +decide only [FA_p, wr]
      refine ld1 gz6 rfl ?_
      refine done _ fun w7 d7 => ?_
      simp +decide only [Ext_20, Ext_21]
      refine d_new [.int .i64 0, .int .i64 0, .int .i64 0] d7 fun bf w8 d8 => ?_
      refine d_st d8 rfl (by simp) (ones rfl) fun w9 d9 => ?_
      simp +decide only [Grd_t, BinI_eql, false_implies, and_true, forall_const]
      exact last _ _ d9.tail k
    · obtain ⟨rfl, rfl, rfl⟩ := hE1 h0
      refine ⟨fun _ => ?_, fun hh => absurd hh h0⟩
      refine ldAll d6.get rfl ?_
      refine bld_ok (cs := #[.int .i64 0, .int .i64 0, .int .i64 0]) rfl ?_
      refine eq3 ?_
      simp +decide only [FA_p, Cnd_b, BinI_add, false_implies, true_and, forall_const, cond_true, wr]
      refine ld1 gz6 rfl ?_
      simp +decide only [FA_p]
      refine ld1 gz6 rfl ?_
      refine done _ fun w7 d7 => ?_
      simp +decide only [Ext_20, Ext_21]
      refine d_new [.int .i64 0, .int .i64 0, .int .i64 0] d7 fun bf w8 d8 => ?_
      refine d_st d8 rfl (by simp) (ones rfl) fun w9 d9 => ?_
      simp +decide only [Grd_t, BinI_eql, false_implies, and_true, forall_const]
      exact last _ _ d9.tail k
  have hfv : f = if kind ≠ 0 ∧ kind ≠ kd then -12 else if iandNot .i64 need r = 0 then 0 else -30 := by rw [← hf]; rfl
  refine ld1 gz6 rfl ?_
  simp +decide only [FA_p, Grd_t, BinI_neq, decide_eq_true_eq, decide_eq_false_iff_not, Bool.not_true, Bool.not_false, Bool.not_eq_eq_eq_not]
  refine ⟨fun h0 => ?_, fun h0 => ?_⟩
  · refine ld1 gz6 rfl ?_
    simp +decide only [FA_p]
    refine ld1 gz6 rfl ?_
    simp +decide only [FA_p, Cnd_b, BinI_neq, decide_eq_true_eq, decide_eq_false_iff_not, Bool.not_true, Bool.not_false, Bool.not_eq_eq_eq_not]
    refine ⟨fun h1 => ?_, fun h1 => ?_⟩
    · rw [if_pos ⟨h0, h1⟩] at hfv; rw [← hfv]; exact key
    · refine ld1 gz6 rfl ?_
      simp +decide only [FA_p]
      refine ld1 gz6 rfl ?_
      simp +decide only [Cnd_b, BinI_andNot, BinI_neq, decide_eq_true_eq, decide_eq_false_iff_not, Bool.not_true, Bool.not_false, Bool.not_eq_eq_eq_not]
      rw [if_neg (fun hh => hh.2 h1)] at hfv
      refine ⟨fun h2 => ?_, fun h2 => ?_⟩
      · rw [if_neg h2] at hfv; rw [← hfv]; exact key
      · rw [if_pos h2] at hfv; rw [← hfv]; exact key
  · refine ld1 gz6 rfl ?_
    simp +decide only [FA_p]
    refine ld1 gz6 rfl ?_
    simp +decide only [Cnd_b, BinI_andNot, BinI_neq, decide_eq_true_eq, decide_eq_false_iff_not, Bool.not_true, Bool.not_false, Bool.not_eq_eq_eq_not]
    rw [if_neg (fun hh => hh.1 h0)] at hfv
    refine ⟨fun h2 => ?_, fun h2 => ?_⟩
    · rw [if_neg h2] at hfv; rw [← hfv]; exact key
    · rw [if_pos h2] at hfv; rw [← hfv]; exact key
end Go.Proofs.Ytgcnebacjkpfmaa
