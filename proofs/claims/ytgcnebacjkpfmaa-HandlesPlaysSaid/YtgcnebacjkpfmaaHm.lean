/- Handles: taking and closing many. -/
import Derived.Test.YtgcnebacjkpfmaaHl
set_option maxRecDepth 100000
namespace Go.Proofs.Ytgcnebacjkpfmaa
open Go Go.Jac
/-- What closing a value leaves; what it stood for. -/
def clo (S : List Slot) (v : Int) : List Slot := match look S v with
  | some p => S.set p ⟨0, 0, 0, 0⟩
  | none => S
def clx (S : List Slot) (v : Int) : Slot := match look S v with
  | some p => S.getD p ⟨0, 0, 0, 0⟩
  | none => ⟨0, 0, 0, 0⟩
def ec (x : Slot) : List Value := [.int .i64 x.o, .int .i64 x.k, .int .i64 x.r]
theorem ec_len (x : Slot) : (ec x).length = 3 := rfl
theorem clo_len (S : List Slot) (v : Int) : (clo S v).length = S.length := by unfold clo; split <;> simp
def cloN (S : List Slot) (l : List Int) : List Slot := l.foldl clo S
def clxN : List Slot → List Int → List Slot
  | _, [] => []
  | S, v :: r => clx S v :: clxN (clo S v) r
theorem clxN_len (S : List Slot) (l : List Int) : (clxN S l).length = l.length := by
  induction l generalizing S with
  | nil => rfl
  | cons v r ih => simp [clxN, ih]
theorem cloN_snoc (S : List Slot) (l : List Int) (v : Int) : cloN S (l ++ [v]) = clo (cloN S l) v := by simp [cloN]
theorem clxN_snoc (S : List Slot) (l : List Int) (v : Int) : clxN S (l ++ [v]) = clxN S l ++ [clx (cloN S l) v] := by
  induction l generalizing S with
  | nil => rfl
  | cons u r ih => simp only [List.cons_append, clxN, ih]; rfl
section
variable {w0 w : World} {L : List HP} {K : Value → WP} {b : Nat} {cap : Int} {S : List Slot} {sv : Value} {l : List Int}
/-- Closing a value, whatever it is. -/
theorem Close_any {v : Int} (hv : I64 v) (hS : TOk cap S) (d : D w0 (Tb b cap S :: L) w)
    (k : TOk cap (clo S v) → ∀ w', D w0 (Tb b cap (clo S v) :: L) w' → K (.tuple #[(clx S v).ent, .int .i64 (if look S v = none then -11 else 0)]) w') :
    Cl pg 15 #[.pointer (some ⟨b, 0, none⟩), .int .i64 v] K w := by
  refine Close_ok hv hS d (fun hn w' d' => ?_) fun p hp hl hT w' d' => ?_
  · have e1 : clo S v = S := by unfold clo; rw [hn]
    have e2 : clx S v = ⟨0, 0, 0, 0⟩ := by unfold clx; rw [hn]
    rw [e1, e2, if_pos hn] at k
    exact k hS w' d'
  · have e1 : clo S v = S.set p ⟨0, 0, 0, 0⟩ := by unfold clo; rw [hl]
    have e2 : clx S v = S[p] := by unfold clx; rw [hl]; simp [hp]
    rw [e1, e2, if_neg (by rw [hl]; simp)] at k
    exact k hT w' d'
/-- May all of these be taken? -/
def tak (S : List Slot) (l : List Int) : Prop := ∀ (i : Nat) (h : i < l.length), look S l[i] ≠ none ∧ l[i] ∉ l.take i
theorem Take_ok (hl : l.length ≤ 65536) (hi64 : ∀ v ∈ l, I64 v) (hS : TOk cap S) (d : D w0 (Rw 3 1 sv l.length (ints l) :: Tb b cap S :: L) w)
    (k1 : ¬ tak S l → ∀ w', D w0 (Rw 3 1 sv l.length (ints l) :: Tb b cap S :: L) w' → K (.tuple #[.slice none 0 0, .int .i64 (-11)]) w')
    (k2 : tak S l → TOk cap (cloN S l) → ∀ sv' w', D w0 (Rw 35 3 sv' l.length ((clxN S l).flatMap ec) :: Rw 3 1 sv l.length (ints l) :: Tb b cap (cloN S l) :: L) w' → K (.tuple #[sv', .int .i64 0]) w') :
    Cl pg 18 #[.pointer (some ⟨b, 0, none⟩), sv] K w := by
  refine V.handles_Table_Take_ok ?_
  unfold V.handles_Table_Take
  refine (sees_of d).len ?_
  refine ⟨fun vs w' => ∃ (u v : Value) (i : Nat), vs = [u, v, .int .i64 i] ∧ i ≤ l.length ∧ (∀ (j : Nat) (h : j < l.length), j < i → look S l[j] ≠ none ∧ l[j] ∉ l.take j) ∧ D w0 (Rw 3 1 sv l.length (ints l) :: Tb b cap S :: L) w', fun vs _ => match vs with | [_, _, .int _ i] => l.length - i.toNat | _ => 0, ⟨_, _, 0, rfl, by omega, fun j _ h => by omega, d⟩, ?_⟩
  rintro _ w1 ⟨u, v, i, rfl, hi, hgood, d1⟩ _
  simp +decide only [UN, Cnd_b, BinI_lss, decide_eq_true_eq, decide_eq_false_iff_not]
  refine ⟨fun hlt => ?_, fun hge => ?_⟩
  · have hlt' : i < l.length := by omega
    have hs := sees_of d1
    obtain ⟨bb, o, hia, hld⟩ := hs.elem (i := (i : Int)) (by omega) hlt
    refine hia _ _ (hld _ ?_)
    have hv := hi64 _ (List.getElem_mem hlt')
    simp only [Int.toNat_natCast]
    have bad : ¬ (look S l[i] ≠ none ∧ l[i] ∉ l.take i) → ¬ tak S l := fun h h2 => h (h2 i hlt')
    refine call_of (fun _ _ => rfl) (find_ok hv d1.swap (fun hn => ?_) fun p b1 c hp d2 => ?_)
    · simp +decide only [Grd_f, EqP_nn, Bool.not_false, false_implies, true_and, forall_const]
      exact k1 (bad fun h => h.1 hn) _ d1
    · have d2' : D w0 (Rw 3 1 sv l.length (ints l) :: Tb b cap S :: L) w1 := d1
      simp +decide only [Grd_f, EqP_pn, false_implies, and_true, forall_const]
      refine hs.take hi fun sv' hs' => ?_
      refine call_of (fun _ _ => rfl) (Contains_ok hs' (by rw [List.length_take]; omega) ?_)
      simp +decide only [Cnd_b, BinI_add, decide_eq_true_eq, decide_eq_false_iff_not]
      refine ⟨fun hin => k1 (bad fun h => h.2 hin) _ d1, fun hin => ?_⟩
      rw [w64 (by omega) (by omega)]
      refine ⟨⟨u, v, i + 1, by simp, by omega, fun j hj hji => ?_, d1⟩, by show l.length - ((i : Int) + 1).toNat < l.length - (i : Int).toNat; omega⟩
      by_cases e : j = i
      · subst e; exact ⟨by rw [hp]; simp, hin⟩
      · exact hgood j hj (by omega)
  · have hall : tak S l := fun j hj => hgood j hj (by omega)
    refine (sees_of d1).len ?_
    have dI : D w0 (Rw 35 3 (.slice none 0 0) 0 [] :: Rw 3 1 sv l.length (ints l) :: Tb b cap S :: L) w1 := ⟨Rw.nil _ _ d1.1, d1.2⟩
    refine ⟨fun vs w' => ∃ (u : Value) (i : Nat), vs = [u, .int .i64 i] ∧ i ≤ l.length ∧ TOk cap (cloN S (l.take i)) ∧ D w0 (Rw 35 3 u (l.take i).length ((clxN S (l.take i)).flatMap ec) :: Rw 3 1 sv l.length (ints l) :: Tb b cap (cloN S (l.take i)) :: L) w', fun vs _ => match vs with | [_, .int _ i] => l.length - i.toNat | _ => 0, ⟨_, 0, rfl, by omega, hS, dI⟩, ?_⟩
    rintro _ w2 ⟨u, i, rfl, hi, hT, d2⟩ _
    simp +decide only [UN, Cnd_b, BinI_lss, decide_eq_true_eq, decide_eq_false_iff_not]
    refine ⟨fun hlt => ?_, fun hge => ?_⟩
    · have hlt' : i < l.length := by omega
      obtain ⟨bb, o, hia, hld⟩ := (sees_of d2.swap).elem (i := (i : Int)) (by omega) hlt
      refine hia _ _ (hld _ ?_)
      simp only [Int.toNat_natCast]
      have hv := hi64 _ (List.getElem_mem hlt')
      refine call_of (fun _ _ => rfl) (Close_any hv hT (d2.sel [2]) fun hT' w3 d3 => ?_)
      simp +decide only [Ext_20, Ext_21]
      refine d_new [.int .i64 0, .int .i64 0, .int .i64 0] d3 fun be w4 d4 => ?_
      generalize hx : clx (cloN S (l.take i)) l[i] = x at *
      refine d_st d4 rfl (by simp []) (ones rfl) fun w5 d5 => ?_
      have d5 : D w0 (cel be 35 (ec x) :: Tb b cap (clo (cloN S (l.take i)) l[i]) :: Rw 35 3 u (l.take i).length ((clxN S (l.take i)).flatMap ec) :: Rw 3 1 sv l.length (ints l) :: L) w5 := d5
      refine ldAll d5.get rfl ?_
      refine d_bsl (ec x) d5 (by decide) (by kernel_rfl) fun bx w6 d6 => ?_
      have hlen : (l.take i).length ≤ 65536 := by rw [List.length_take]; omega
      refine d_app (m := 1) (d6.sel [3]) (src_of d6.get rfl (ones rfl) 1) rfl (by omega) (by omega) (by omega) (ones rfl) fun sv' w7 d7 => ?_
      have d7 : D w0 (Rw 35 3 sv' ((l.take i).length + 1) ((clxN S (l.take i)).flatMap ec ++ ec x) :: cel bx 35 (ec x) :: cel be 35 (ec x) :: Tb b cap (clo (cloN S (l.take i)) l[i]) :: Rw 3 1 sv l.length (ints l) :: L) w7 := d7
      simp +decide only [BinI_add]
      rw [w64 (by omega) (by omega)]
      have e1 : l.take (i + 1) = l.take i ++ [l[i]] := List.take_succ_eq_append_getElem hlt'
      have e2 : cloN S (l.take (i + 1)) = clo (cloN S (l.take i)) l[i] := by rw [e1, cloN_snoc]
      have e3 : (clxN S (l.take (i + 1))).flatMap ec = (clxN S (l.take i)).flatMap ec ++ ec x := by rw [e1, clxN_snoc, hx]; simp
      have e4 : (l.take (i + 1)).length = (l.take i).length + 1 := by rw [e1, List.length_append]; rfl
      refine ⟨⟨sv', i + 1, by simp, by omega, by rw [e2]; exact hT', ?_⟩, by show l.length - ((i : Int) + 1).toNat < l.length - (i : Int).toNat; omega⟩
      rw [e2, e3, e4]
      exact (d7.sel [1, 2, 0, 4, 3]).tail.tail
    · have e : l.take i = l := List.take_of_length_le (by omega)
      rw [e] at d2 hT
      exact k2 hall hT _ _ d2
theorem look_0 (S : List Slot) : look S 0 = none := by
  unfold look
  rw [dif_neg (by have : hplc 0 = -1 := by decide
                  rw [this]; omega)]
theorem clo_none {S : List Slot} {v : Int} (h : look S v = none) : clo S v = S := by unfold clo; rw [h]
def cmX : List Slot → List Int → List Slot
  | _, [] => []
  | S, v :: r => if look S v = none then cmX (clo S v) r else clx S v :: cmX (clo S v) r
def cmB : List Slot → List Int → Bool
  | _, [] => false
  | S, v :: r => (decide (v ≠ 0) && (look S v).isNone) || cmB (clo S v) r
theorem cmX_snoc (S : List Slot) (l : List Int) (v : Int) : cmX S (l ++ [v]) = cmX S l ++ (if look (cloN S l) v = none then [] else [clx (cloN S l) v]) := by
  induction l generalizing S with
  | nil => simp only [List.nil_append, cmX, cloN, List.foldl_nil]; split <;> simp_all
  | cons u r ih =>
    have e : cloN S (u :: r) = cloN (clo S u) r := rfl
    rw [e, List.cons_append, cmX, cmX, ih]
    by_cases h : look S u = none
    · rw [if_pos h, if_pos h]
    · rw [if_neg h, if_neg h]; rfl
theorem cmB_snoc (S : List Slot) (l : List Int) (v : Int) : cmB S (l ++ [v]) = (cmB S l || (decide (v ≠ 0) && (look (cloN S l) v).isNone)) := by
  induction l generalizing S with
  | nil => simp [cmB, cloN]
  | cons u r ih => simp only [List.cons_append, cmB, ih, cloN, List.foldl_cons, Bool.or_assoc]
theorem cmX_len (S : List Slot) (l : List Int) : (cmX S l).length ≤ l.length := by
  induction l generalizing S with
  | nil => simp [cmX]
  | cons v r ih =>
    have := ih (clo S v)
    simp only [cmX]
    split <;> simp only [List.length_cons] <;> omega
theorem CloseMany_ok (hl : l.length ≤ 65536) (hi64 : ∀ v ∈ l, I64 v) (hS : TOk cap S) (d : D w0 (Rw 3 1 sv l.length (ints l) :: Tb b cap S :: L) w)
    (k : TOk cap (cloN S l) → ∀ sv' w', D w0 (Rw 35 3 sv' (cmX S l).length ((cmX S l).flatMap ec) :: Rw 3 1 sv l.length (ints l) :: Tb b cap (cloN S l) :: L) w' → K (.tuple #[sv', .int .i64 (cond (cmB S l) (-11) 0)]) w') :
    Cl pg 20 #[.pointer (some ⟨b, 0, none⟩), sv] K w := by
  refine V.handles_Table_CloseMany_ok ?_
  unfold V.handles_Table_CloseMany
  refine (sees_of d).len ?_
  have dI : D w0 (Rw 35 3 (.slice none 0 0) 0 [] :: Rw 3 1 sv l.length (ints l) :: Tb b cap S :: L) w := ⟨Rw.nil _ _ d.1, d.2⟩
  refine ⟨fun vs w' => ∃ (u : Value) (i : Nat), vs = [.int .i64 (cond (cmB S (l.take i)) (-11) 0), u, .int .i64 i] ∧ i ≤ l.length ∧ TOk cap (cloN S (l.take i)) ∧ D w0 (Rw 35 3 u (cmX S (l.take i)).length ((cmX S (l.take i)).flatMap ec) :: Rw 3 1 sv l.length (ints l) :: Tb b cap (cloN S (l.take i)) :: L) w', fun vs _ => match vs with | [_, _, .int _ i] => l.length - i.toNat | _ => 0, ⟨_, 0, rfl, by omega, hS, dI⟩, ?_⟩
  rintro _ w2 ⟨u, i, rfl, hi, hT, d2⟩ _
  simp +decide only [UN, Cnd_b, BinI_lss, decide_eq_true_eq, decide_eq_false_iff_not]
  refine ⟨fun hlt => ?_, fun hge => ?_⟩
  · have hlt' : i < l.length := by omega
    have e1 : l.take (i + 1) = l.take i ++ [l[i]] := List.take_succ_eq_append_getElem hlt'
    have e2 : cloN S (l.take (i + 1)) = clo (cloN S (l.take i)) l[i] := by rw [e1, cloN_snoc]
    have e3 : cmX S (l.take (i + 1)) = cmX S (l.take i) ++ (if look (cloN S (l.take i)) l[i] = none then [] else [clx (cloN S (l.take i)) l[i]]) := by rw [e1, cmX_snoc]
    have e4 : cmB S (l.take (i + 1)) = (cmB S (l.take i) || (decide (l[i] ≠ 0) && (look (cloN S (l.take i)) l[i]).isNone)) := by rw [e1, cmB_snoc]
    have next : ∀ (u' st : Value) (w' : World), st = .int .i64 (cond (cmB S (l.take (i + 1))) (-11) 0) → TOk cap (cloN S (l.take (i + 1))) → D w0 (Rw 35 3 u' (cmX S (l.take (i + 1))).length ((cmX S (l.take (i + 1))).flatMap ec) :: Rw 3 1 sv l.length (ints l) :: Tb b cap (cloN S (l.take (i + 1))) :: L) w' →
        (∃ (u : Value) (i' : Nat), [st, u', Value.int .i64 ((i : Int) + 1)] = [.int .i64 (cond (cmB S (l.take i')) (-11) 0), u, .int .i64 i'] ∧ i' ≤ l.length ∧ TOk cap (cloN S (l.take i')) ∧ D w0 (Rw 35 3 u (cmX S (l.take i')).length ((cmX S (l.take i')).flatMap ec) :: Rw 3 1 sv l.length (ints l) :: Tb b cap (cloN S (l.take i')) :: L) w') ∧ l.length - ((i : Int) + 1).toNat < l.length - (i : Int).toNat :=
      fun u' st w' hst hT' d' => ⟨⟨u', i + 1, by rw [hst]; simp, by omega, hT', d'⟩, by omega⟩
    obtain ⟨bb, o, hia, hld⟩ := (sees_of d2.swap).elem (i := (i : Int)) (by omega) hlt
    have hv := hi64 _ (List.getElem_mem hlt')
    have hw1 : IntKind.i64.wrap ((i : Int) + 1) = i + 1 := w64 (by omega) (by omega)
    refine hia _ _ (hld _ ?_)
    simp +decide only [Cnd_b, BinI_add, BinI_eql, decide_eq_true_eq, decide_eq_false_iff_not, Int.toNat_natCast, hw1]
    generalize hz : l[i] = z at *
    refine ⟨fun h0 => ?_, fun h0 => ?_⟩
    · subst h0
      have hn := look_0 (cloN S (l.take i))
      rw [hn, if_pos rfl, List.append_nil] at e3
      rw [clo_none hn] at e2
      refine next u _ _ ?_ (by rw [e2]; exact hT) (by rw [e2, e3]; exact d2)
      rw [e4]; simp
    · refine call_of (fun _ _ => rfl) (Close_any hv hT (d2.sel [2]) fun hT' w3 d3 => ?_)
      simp +decide only [Ext_20, Ext_21]
      refine d_new [.int .i64 0, .int .i64 0, .int .i64 0] d3 fun be w4 d4 => ?_
      generalize hx : clx (cloN S (l.take i)) z = x at *
      refine d_st d4 rfl (by simp []) (ones rfl) fun w5 d5 => ?_
      have d5 : D w0 (cel be 35 (ec x) :: Tb b cap (clo (cloN S (l.take i)) z) :: Rw 35 3 u (cmX S (l.take i)).length ((cmX S (l.take i)).flatMap ec) :: Rw 3 1 sv l.length (ints l) :: L) w5 := d5
      by_cases hn : look (cloN S (l.take i)) z = none
      · simp +decide only [Cnd_b, BinI_add, BinI_neq, false_implies, and_true, forall_const, hn, if_true, hw1]
        rw [hn, if_pos rfl, List.append_nil] at e3
        refine next u _ _ ?_ (by rw [e2]; exact hT') (by rw [e2, e3]; exact (d5.sel [0, 2, 3, 1]).tail)
        rw [e4, hn]; simp [h0]
      · simp +decide only [Cnd_b, BinI_add, BinI_neq, false_implies, true_and, forall_const, hn, if_false]
        rw [if_neg hn] at e3
        refine ldAll d5.get rfl ?_
        refine d_bsl (ec x) d5 (by decide) (by kernel_rfl) fun bx w6 d6 => ?_
        have hlen : (cmX S (l.take i)).length ≤ 65536 := by
          have := cmX_len S (l.take i)
          rw [List.length_take] at this; omega
        refine d_app (m := 1) (d6.sel [3]) (src_of d6.get rfl (ones rfl) 1) rfl (by omega) (by omega) (by omega) (ones rfl) fun sv' w7 d7 => ?_
        have d7 : D w0 (Rw 35 3 sv' ((cmX S (l.take i)).length + 1) ((cmX S (l.take i)).flatMap ec ++ ec x) :: cel bx 35 (ec x) :: cel be 35 (ec x) :: Tb b cap (clo (cloN S (l.take i)) z) :: Rw 3 1 sv l.length (ints l) :: L) w7 := d7
        simp +decide only [BinI_add, hw1]
        refine next sv' _ _ ?_ (by rw [e2]; exact hT') ?_
        · rw [e4]
          have : (look (cloN S (l.take i)) z).isNone = false := by
            cases hh : look (cloN S (l.take i)) z with
            | none => exact absurd hh hn
            | some p => rfl
          rw [this]; simp
        · have e5 : (cmX S (l.take (i + 1))).length = (cmX S (l.take i)).length + 1 := by rw [e3]; simp
          have e6 : (cmX S (l.take (i + 1))).flatMap ec = (cmX S (l.take i)).flatMap ec ++ ec x := by rw [e3]; simp
          rw [e2, e5, e6]
          exact (d7.sel [1, 2, 0, 4, 3]).tail.tail
  · have e : l.take i = l := List.take_of_length_le (by omega)
    rw [e] at d2 hT
    rw [e]
    exact k hT _ _ d2
end
end Go.Proofs.Ytgcnebacjkpfmaa
