/- Handles: what is found, closed. -/
import Derived.Test.YtgcnebacjkpfmaaHc
set_option maxRecDepth 100000
namespace Go.Proofs.Ytgcnebacjkpfmaa
open Go Go.Jac
section
variable {w0 w : World} {L : List HP} {K : Value → WP} {b : Nat} {cap : Int} {S : List Slot}
theorem ldAll {t : TypeId} {cs : List Value} {n : Nat} (g : hw w b = some (.cells cs.toArray t (0, 0))) (hn : cs.length = n) (k : K (.agg cs.toArray) w) : LdN n (.pointer (some ⟨b, 0, none⟩)) K w :=
  ldN g cs hn (fun j x hx => by rw [Nat.zero_add]; exact hx) k
theorem ia0 {es len c : Nat} {k : IntKind} {i : Int} (h0 : 0 ≤ i) (h1 : i < (len : Int)) (hk : K (.pointer (some ⟨b, i.toNat * es, none⟩)) w) : IA es (.slice (some ⟨b, 0, none⟩) len c) (.int k i) K w :=
  ia_ok h0 h1 (by rw [Nat.zero_add]; exact hk)
/-- An entry. -/
def ent (o k r : Int) : Value := .agg #[.int .i64 o, .int .i64 k, .int .i64 r]
/-- A place, as an entry. -/
def Slot.ent (x : Slot) : Value := Proofs.Ytgcnebacjkpfmaa.ent x.o x.k x.r
/-- The place of a value. -/
def look (S : List Slot) (v : Int) : Option Nat :=
  if h : 0 ≤ hplc v ∧ hplc v < S.length then if (S[(hplc v).toNat]'(by omega)).v = v then some (hplc v).toNat else none else none
theorem look_some {v : Int} {p : Nat} (h : look S v = some p) : ∃ hp : p < S.length, S[p].v = v ∧ hplc v = p := by
  unfold look at h
  split at h
  · rename_i hp
    split at h
    · rename_i hv
      cases h
      exact ⟨by omega, hv, by omega⟩
    · cases h
  · cases h
theorem find_ok {v : Int} (hv : I64 v) (d : D w0 (Tb b cap S :: L) w) (k1 : look S v = none → K (.pointer none) w)
    (k2 : ∀ p b1 c, look S v = some p → D w0 (cel b 72 [.slice (some ⟨b1, 0, none⟩) S.length c, .int .i64 cap, .int .i64 (cnt S)] :: Rw 75 4 (.slice (some ⟨b1, 0, none⟩) S.length c) S.length (S.flatMap sc) :: L) w → K (.pointer (some ⟨b1, p * 4, none⟩)) w) :
    Cl pg 33 #[.pointer (some ⟨b, 0, none⟩), .int .i64 v] K w := by
  refine V.handles_Table_find_ok ?_
  unfold V.handles_Table_find
  refine call_of (fun _ _ => rfl) (Place_ok hv ?_)
  obtain ⟨sv, d⟩ := Tb.out d
  obtain ⟨q, c, rfl, -⟩ := Rw.shape d.swap.1
  simp +decide only [NilC_p, FA_p, Grd_f, BinI_lss, decide_eq_true_eq, decide_eq_false_iff_not]
  refine ⟨fun h => ?_, fun h => k1 (by unfold look; rw [dif_neg (by omega)])⟩
  refine ld1 d.get rfl ?_
  rw [LenS_s]
  simp +decide only [NilC_p, FA_p, Grd_f, BinI_geq, decide_eq_true_eq, decide_eq_false_iff_not]
  refine ⟨fun h2 => ?_, fun h2 => k1 (by unfold look; rw [dif_neg (by omega)])⟩
  refine ld1 d.get rfl ?_
  obtain ⟨b1, c1, cs, e, g, hc⟩ := rec_at sc_len d.swap (i := hplc v) (by omega) (by omega)
  cases e
  refine ia0 (by omega) (by omega) ?_
  simp +decide only [FA_p]
  refine ld1 g (hc 0 _ rfl) ?_
  simp +decide only [NilC_p, FA_p, Cnd_b, BinI_neq, decide_eq_true_eq, decide_eq_false_iff_not, Bool.not_true, Bool.not_false, Bool.not_eq_eq_eq_not]
  refine ⟨fun h3 => k1 (by unfold look; rw [dif_pos (by omega), if_neg h3]), fun h3 => ?_⟩
  refine ld1 d.get rfl ?_
  refine ia0 (by omega) (by omega) ?_
  have := k2 (hplc v).toNat b1 c (by unfold look; rw [dif_pos (by omega), if_pos h3]) d
  exact this
theorem Get_ok {v : Int} (hv : I64 v) (d : D w0 (Tb b cap S :: L) w) (k1 : look S v = none → ∀ w', D w0 (Tb b cap S :: L) w' → K (.tuple #[ent 0 0 0, .int .i64 (-11)]) w')
    (k2 : ∀ p (hp : p < S.length), look S v = some p → ∀ w', D w0 (Tb b cap S :: L) w' → K (.tuple #[S[p].ent, .int .i64 0]) w') :
    Cl pg 16 #[.pointer (some ⟨b, 0, none⟩), .int .i64 v] K w := by
  refine V.handles_Table_Get_ok ?_
  unfold V.handles_Table_Get
  refine d_new [.int .i64 0, .int .i64 0, .int .i64 0] d fun be w1 d1 => ?_
  refine call_of (fun _ _ => rfl) (find_ok hv d1.swap (fun hn => ?_) fun p b1 c hp d2 => ?_)
  · simp +decide only [Cnd_b, EqP_nn, Bool.not_false, false_implies, and_true, forall_const]
    refine bld_ok (cs := #[.int .i64 0, .int .i64 0, .int .i64 0]) rfl ?_
    refine d_st d1 rfl (by simp) (ones rfl) fun w2 d2 => ?_
    exact ldAll d2.get rfl (k1 hn _ d2.tail)
  · simp +decide only [NilC_p, FA_p, Cnd_b, EqP_pn, false_implies, true_and, forall_const]
    obtain ⟨hlt, -, -⟩ := look_some hp
    obtain ⟨b2, c2, cs, e, g, hc⟩ := rec_at sc_len d2.swap (i := (p : Int)) (by omega) (by omega)
    cases e
    refine ldN g [.int .i64 S[p].o, .int .i64 S[p].k, .int .i64 S[p].r] rfl (fun j x hx => ?_) ?_
    · have := hc (j + 1) x (by simpa [sc] using hx)
      rw [← this, Int.toNat_natCast]; congr 1; omega
    refine d_st (D.pick 2 d2) rfl (by simp) (ones rfl) fun w2 d3 => ?_
    exact ldAll d3.get rfl (k2 p hlt hp _ (Tb.mk d3.tail))
theorem cnt_pos {S : List Slot} {p : Nat} (h : p < S.length) (hv : S[p].v ≠ 0) : 0 < cnt S := by
  have := cnt_set h ⟨0, 0, 0, 0⟩
  have h2 := cnt_le (S.set p ⟨0, 0, 0, 0⟩)
  rw [if_pos hv] at this
  simp at this
  omega
theorem look_ne {v : Int} {p : Nat} (h : look S v = some p) : v ≠ 0 := by
  obtain ⟨_, _, h2⟩ := look_some h
  intro h0
  subst h0
  have : hplc 0 = -1 := by decide
  omega
theorem Close_ok {v : Int} (hv : I64 v) (hS : TOk cap S) (d : D w0 (Tb b cap S :: L) w) (k1 : look S v = none → ∀ w', D w0 (Tb b cap S :: L) w' → K (.tuple #[ent 0 0 0, .int .i64 (-11)]) w')
    (k2 : ∀ p (hp : p < S.length), look S v = some p → TOk cap (S.set p ⟨0, 0, 0, 0⟩) → ∀ w', D w0 (Tb b cap (S.set p ⟨0, 0, 0, 0⟩) :: L) w' → K (.tuple #[S[p].ent, .int .i64 0]) w') :
    Cl pg 15 #[.pointer (some ⟨b, 0, none⟩), .int .i64 v] K w := by
  refine V.handles_Table_Close_ok ?_
  unfold V.handles_Table_Close
  refine d_new [.int .i64 0, .int .i64 0, .int .i64 0] d fun be w1 d1 => ?_
  refine call_of (fun _ _ => rfl) (find_ok hv d1.swap (fun hn => ?_) fun p b1 c hp d2 => ?_)
  · simp +decide only [Cnd_b, EqP_nn, Bool.not_false, false_implies, and_true, forall_const]
    refine bld_ok (cs := #[.int .i64 0, .int .i64 0, .int .i64 0]) rfl ?_
    refine d_st d1 rfl (by simp) (ones rfl) fun w2 d2 => ?_
    exact ldAll d2.get rfl (k1 hn _ d2.tail)
  · simp +decide only [NilC_p, FA_p, Cnd_b, EqP_pn, false_implies, true_and, forall_const]
    obtain ⟨hlt, hpv, -⟩ := look_some hp
    have hv0 := look_ne hp
    obtain ⟨b2, c2, cs, e, g, hc⟩ := rec_at sc_len d2.swap (i := (p : Int)) (by omega) (by omega)
    cases e
    refine ldN g [.int .i64 S[p].o, .int .i64 S[p].k, .int .i64 S[p].r] rfl (fun j x hx => ?_) ?_
    · have := hc (j + 1) x (by simpa [sc] using hx)
      rw [← this, Int.toNat_natCast]; congr 1; omega
    refine d_new [.int .i64 0, .int .i64 0, .int .i64 0] d2 fun bf w2 d3 => ?_
    refine d_st d3 rfl (by simp) (ones rfl) fun w3 d4 => ?_
    refine bld_ok (cs := #[.int .i64 0, .int .i64 0, .int .i64 0, .int .i64 0]) rfl ?_
    simp +decide only [NilC_p]
    refine rec_st (i := (p : Int)) sc_len (D.pick 2 d4) (by omega) (by omega) (o := 0) (by simp) rfl (by omega) (ones rfl) ⟨0, 0, 0, 0⟩ rfl fun w4 d5 => ?_
    simp only [Int.toNat_natCast] at d5
    have hcnt := cnt_set hlt ⟨0, 0, 0, 0⟩
    rw [if_pos (by rw [hpv]; exact hv0), if_neg (by simp)] at hcnt
    have hT : TOk cap (S.set p ⟨0, 0, 0, 0⟩) := by
      have := hS.1; have := hS.2
      exact ⟨by simpa using hS.1, hS.2⟩
    have hle := cnt_le S
    have hpos := cnt_pos hlt (by rw [hpv]; exact hv0)
    have h1 := hS.1; have h2 := hS.2
    simp +decide only [NilC_p, FA_p]
    refine ld1 (D.pick 2 d5).get rfl ?_
    rw [BinI_sub, w64 (by omega) (by omega)]
    simp +decide only [NilC_p, FA_p]
    refine d_st (D.pick 2 d5) rfl (by simp) (ones rfl) fun w5 d6 => ?_
    refine ldAll (D.pick 2 d6).get rfl ?_
    refine d_st (D.pick 3 d6) rfl (by simp) (ones rfl) fun w6 d7 => ?_
    refine ldAll d7.get rfl ?_
    refine k2 p hlt hp hT _ ?_
    have d8 : D w0 (cel be 35 _ :: cel b 72 [.slice (some ⟨b1, 0, none⟩) S.length c, .int .i64 cap, .int .i64 (cnt S - 1)] :: Rw 75 4 (.slice (some ⟨b1, 0, none⟩) S.length c) (S.set p ⟨0, 0, 0, 0⟩).length ((S.set p ⟨0, 0, 0, 0⟩).flatMap sc) :: cel bf 35 _ :: L) w6 := d7
    have d9 := D.pick 2 d8.tail
    have e : cnt S - 1 = cnt (S.set p ⟨0, 0, 0, 0⟩) := by omega
    rw [e] at d8
    exact (Tb.mk d8.tail).tail2
theorem Has_ok {a n : Int} (k : K (.bool (decide (iandNot .i64 n a = 0))) w) : Cl pg 23 #[.int .i64 a, .int .i64 n] K w := by
  refine V.rights_Rights_Has_ok ?_
  unfold V.rights_Rights_Has
  simp +decide only [BinI_andNot, BinI_eql]
  exact k
theorem Need_ok {a n : Int} (k : K (.int .i64 (if iandNot .i64 n a = 0 then 0 else -30)) w) : Cl pg 34 #[.int .i64 a, .int .i64 n] K w := by
  refine V.rights_Rights_Need_ok ?_
  unfold V.rights_Rights_Need
  refine call_of (fun _ _ => rfl) (Has_ok ?_)
  simp +decide only [Cnd_b, Un_not, decide_eq_true_eq, decide_eq_false_iff_not, Bool.not_true, Bool.not_false, Bool.not_eq_eq_eq_not]
  refine ⟨fun h => ?_, fun h => ?_⟩
  · rw [if_neg h] at k; exact k
  · rw [if_pos h] at k; exact k
theorem Count_ok (d : D w0 (Tb b cap S :: L) w) (k : K (.int .i64 (cnt S)) w) : Cl pg 19 #[.pointer (some ⟨b, 0, none⟩)] K w := by
  refine V.handles_Table_Count_ok ?_
  unfold V.handles_Table_Count
  obtain ⟨sv, d⟩ := Tb.out d
  simp +decide only [NilC_p, FA_p]
  exact ld1 d.get rfl k
end
end Go.Proofs.Ytgcnebacjkpfmaa
