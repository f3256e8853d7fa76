/- Handles: tables. -/
import Derived.Test.YtgcnebacjkpfmaaHa
import Derived.Test.YtgcnebacjkpfmaaSn
import Derived.Test.YtgcnebacjkpfmaaSd
set_option maxRecDepth 100000
namespace Go.Proofs.Ytgcnebacjkpfmaa
open Go Go.Jac

structure Slot where
  v : Int
  o : Int
  k : Int
  r : Int
def sc (x : Slot) : List Value := [.int .i64 x.v, .int .i64 x.o, .int .i64 x.k, .int .i64 x.r]
theorem sc_len (x : Slot) : (sc x).length = 4 := rfl
def cnt (S : List Slot) : Int := (S.countP (fun x => decide (x.v ≠ 0)) : Nat)
theorem cnt_le (S : List Slot) : 0 ≤ cnt S ∧ cnt S ≤ S.length := by
  unfold cnt
  have := List.countP_le_length (p := fun x : Slot => decide (x.v ≠ 0)) (l := S)
  omega
def Tb (b : Nat) (cap : Int) (S : List Slot) : HP := ex fun sv => sat [cel b 72 [sv, .int .i64 cap, .int .i64 (cnt S)], Rw 75 4 sv S.length (S.flatMap sc)]
def TOk (cap : Int) (S : List Slot) : Prop := S.length ≤ cap ∧ cap ≤ 65536
section
variable {w0 w : World} {L : List HP} {K : Value → WP} {b : Nat} {cap : Int} {S : List Slot}
theorem Tb.out (d : D w0 (Tb b cap S :: L) w) : ∃ sv, D w0 (cel b 72 [sv, .int .i64 cap, .int .i64 (cnt S)] :: Rw 75 4 sv S.length (S.flatMap sc) :: L) w := by
  obtain ⟨sv, d⟩ := d.ex
  exact ⟨sv, d.opens⟩
theorem Tb.mk {sv : Value} (d : D w0 (cel b 72 [sv, .int .i64 cap, .int .i64 (cnt S)] :: Rw 75 4 sv S.length (S.flatMap sc) :: L) w) : D w0 (Tb b cap S :: L) w :=
  D.mk_ex (A := fun sv => sat [cel b 72 [sv, .int .i64 cap, .int .i64 (cnt S)], Rw 75 4 sv S.length (S.flatMap sc)]) sv (D.close (M := [_, _]) d)

theorem New_ok {n : Int} (hn : 0 ≤ n ∧ n ≤ 65536) (d : D w0 L w) (k : ∀ b w', D w0 (Tb b n [] :: L) w' → K (.pointer (some ⟨b, 0, none⟩)) w') : Cl pg 13 #[.int .i64 n] K w := by
  refine V.handles_New_ok ?_
  unfold V.handles_New
  simp +decide only [Cnd_b, Grd_f, BinI_lss, BinI_gtr, decide_eq_true_eq, decide_eq_false_iff_not]
  refine ⟨fun h => ⟨fun h2 => by omega, fun h2 => ?_⟩, fun h => by omega⟩
  refine bld_ok (cs := #[.slice none 0 0, .int .i64 n, .int .i64 0]) rfl ?_
  refine d_new [.slice none 0 0, .int .i64 n, .int .i64 0] d fun b w' d' => k b w' ?_
  refine Tb.mk (sv := .slice none 0 0) ?_
  exact ⟨Sat.swap (Rw.nil _ _ d'.1), d'.2⟩
theorem New_no {n : Int} (hn : ¬ (0 ≤ n ∧ n ≤ 65536)) (k : K (.pointer none) w) : Cl pg 13 #[.int .i64 n] K w := by
  refine V.handles_New_ok ?_
  unfold V.handles_New
  simp +decide only [Cnd_b, Grd_f, BinI_lss, BinI_gtr, decide_eq_true_eq, decide_eq_false_iff_not]
  exact ⟨fun h => ⟨fun h2 => k, fun h2 => by omega⟩, fun h => k⟩

/-- The first free place; the length: there is none. -/
def fre : List Slot → Nat
  | [] => 0
  | x :: r => if x.v = 0 then 0 else fre r + 1
theorem fre_le (S : List Slot) : fre S ≤ S.length := by
  induction S with
  | nil => simp [fre]
  | cons x r ih => simp only [fre, List.length_cons]; split <;> omega
theorem fre_cases {S : List Slot} {i : Nat} (h : i < S.length) (hi : i ≤ fre S) : (S[i].v = 0 → fre S = i) ∧ (S[i].v ≠ 0 → i + 1 ≤ fre S) := by
  induction S generalizing i with
  | nil => simp at h
  | cons x r ih =>
    cases i with
    | zero => simp only [fre, List.getElem_cons_zero]; exact ⟨fun h => by rw [if_pos h], fun h => by rw [if_neg h]; omega⟩
    | succ i =>
      simp only [fre] at hi ⊢
      split at hi
      · omega
      · rename_i hx
        rw [if_neg hx, List.getElem_cons_succ]
        have := ih (i := i) (by simpa using h) (by omega)
        exact ⟨fun h => by rw [this.1 h], fun h => by have := this.2 h; omega⟩
theorem Add_c1_ok {x : Slot} (d : D w0 L w) (k : ∀ w', D w0 L w' → K (.bool (decide (x.v = 0))) w') : Cl pg 32 #[.agg (sc x).toArray] K w := by
  refine V.handles_Table_Add_c1_ok ?_
  unfold V.handles_Table_Add_c1
  refine d_new (sc x) d fun b w1 d1 => ?_
  rw [FA_p]
  refine ld1 (v := .int .i64 x.v) d1.get rfl ?_
  simp only [BinI_eql]
  exact k _ d1.tail
theorem IndexFunc_ok {sv : Value} (d : D w0 (Rw 75 4 sv S.length (S.flatMap sc) :: L) w) (hS : S.length ≤ 65536)
    (k : ∀ w', D w0 (Rw 75 4 sv S.length (S.flatMap sc) :: L) w' → K (.int .i64 (if fre S < S.length then fre S else -1)) w') :
    Cl pg 31 #[sv, .func (.func 32) #[] #[]] K w := by
  refine V.slices_IndexFunc_slot_slot_ok ?_
  unfold V.slices_IndexFunc_slot_slot
  obtain ⟨p, c, rfl, -⟩ := Rw.shape d.1
  rw [LenS_s]
  refine ⟨fun vs w' => ∃ (u : Value) (i : Nat), vs = [u, .int .i64 i] ∧ i ≤ fre S ∧ D w0 (Rw 75 4 (.slice p S.length c) S.length (S.flatMap sc) :: L) w', fun vs _ => match vs with | [_, .int _ i] => S.length - i.toNat | _ => 0, ⟨_, 0, rfl, by omega, d⟩, ?_⟩
  rintro _ w' ⟨u, i, rfl, hi, d'⟩ _
  have hf := fre_le S
  simp only [UN, Cnd_b, BinI_lss, decide_eq_true_eq, decide_eq_false_iff_not]
  refine ⟨fun hlt => ?_, fun hge => ?_⟩
  · obtain ⟨b, cap, cs, e, g, hc⟩ := rec_at sc_len d' (i := (i : Int)) (by omega) hlt
    cases e
    refine ia_ok (by omega) hlt ?_
    refine ldN g (sc S[i]) rfl (fun j x hx => ?_) ?_
    · rw [Nat.zero_add]; exact hc j x hx
    refine call_of (fun _ _ => rfl) ?_
    refine Add_c1_ok d' fun w2 d2 => ?_
    have hfc := fre_cases (S := S) (i := i) (by omega) hi
    simp only [Cnd_b, BinI_add, decide_eq_true_eq, decide_eq_false_iff_not]
    refine ⟨fun hz => ?_, fun hz => ?_⟩
    · have := hfc.1 hz
      rw [if_pos (by omega)] at k
      rw [← this]; exact k _ d2
    · have := hfc.2 hz
      rw [w64 (by omega) (by omega)]
      exact ⟨⟨u, i + 1, by simp, this, d2⟩, by show S.length - ((i : Int) + 1).toNat < S.length - (i : Int).toNat; omega⟩
  · rw [if_neg (by omega)] at k
    exact k _ d'

/-- One more. -/
def adS (S : List Slot) (x : Slot) : List Slot := if fre S < S.length then S.set (fre S) x else S ++ [x]
theorem cnt_app (S : List Slot) (x : Slot) (h : x.v ≠ 0) : cnt (S ++ [x]) = cnt S + 1 := by
  unfold cnt
  rw [List.countP_append]
  simp [h]
theorem fre_zero {S : List Slot} (h : fre S < S.length) : S[fre S].v = 0 := by
  induction S with
  | nil => simp at h
  | cons x r ih =>
    simp only [fre] at h ⊢
    split
    · rename_i hx; simpa using hx
    · rename_i hx
      rw [if_neg hx] at h
      simpa using ih (by simpa using h)
theorem cnt_set {S : List Slot} {i : Nat} (h : i < S.length) (x : Slot) : cnt (S.set i x) = cnt S - (if S[i].v ≠ 0 then 1 else 0) + (if x.v ≠ 0 then 1 else 0) := by
  induction S generalizing i with
  | nil => simp at h
  | cons y r ih =>
    unfold cnt at ih ⊢
    cases i with
    | zero => simp only [List.set_cons_zero, List.countP_cons, List.getElem_cons_zero, decide_eq_true_eq]; split <;> split <;> omega
    | succ i =>
      simp only [List.set_cons_succ, List.countP_cons, List.getElem_cons_succ]
      have := ih (i := i) (by simpa using h)
      push_cast
      omega
theorem hval_ne {a d : Int} (h : 0 ≤ a ∧ a < 65536) : hval a d ≠ 0 := by
  unfold hval; rw [if_pos h]; omega
theorem fre_full {S : List Slot} (h : cnt S < S.length) : fre S < S.length := by
  induction S with
  | nil => simp [cnt] at h
  | cons x r ih =>
    simp only [fre]
    split
    · simp
    · rename_i hx
      have : cnt (x :: r) = cnt r + 1 := by simp [cnt, hx]
      rw [this] at h
      have := ih (by simp only [List.length_cons] at h; push_cast at h; omega)
      simp only [List.length_cons]; omega
theorem adS_ok {S : List Slot} (x : Slot) (hx : x.v ≠ 0) (hS : TOk cap S) (hc : cnt S ≠ cap) : TOk cap (adS S x) ∧ cnt (adS S x) = cnt S + 1 := by
  obtain ⟨h1, h2⟩ := hS
  have hl := cnt_le S
  unfold adS
  split
  · rename_i h
    refine ⟨⟨by simp; omega, h2⟩, ?_⟩
    rw [cnt_set h, if_neg (by simpa using fre_zero h), if_pos hx]; omega
  · rename_i h
    have : ¬ cnt S < S.length := fun h' => h (fre_full h')
    exact ⟨⟨by simp; omega, h2⟩, cnt_app _ _ hx⟩
theorem adS_ok' {S : List Slot} {v o kd r : Int} (hx : v ≠ 0) (hS : TOk cap S) (hc : cnt S ≠ cap) : TOk cap (adS S ⟨v, o, kd, r⟩) ∧ cnt (adS S ⟨v, o, kd, r⟩) = cnt S + 1 := adS_ok _ hx hS hc
theorem Add_full {e : Value} {dr : Int} {o kd r : Int} (he : e = .agg #[.int .i64 o, .int .i64 kd, .int .i64 r]) (hc : cnt S = cap) (d : D w0 (Tb b cap S :: L) w) (k : ∀ w', D w0 (Tb b cap S :: L) w' → K (.tuple #[.int .i64 0, .int .i64 (-4)]) w') :
    Cl pg 14 #[.pointer (some ⟨b, 0, none⟩), e, .int .i64 dr] K w := by
  subst he
  refine V.handles_Table_Add_ok ?_
  unfold V.handles_Table_Add
  obtain ⟨sv, d⟩ := Tb.out d
  refine d_new' [.int .i64 o, .int .i64 kd, .int .i64 r] rfl d fun be w d => ?_
  have d := d.tail
  repeat (first | refine drw d fun w d => ?_ | (simp +decide only [SEM]) | refine qt d ?_ | refine qe_nil ?_ | (apply qlm; (focus ((repeat (first | exact .h _ | refine .t _ _ ?_)); done)); (focus rfl)))
  exact ⟨fun _ => k _ (Tb.mk d), fun h => absurd hc h⟩
theorem Add_ok {e : Value} {dr : Int} {o kd r : Int} (he : e = .agg #[.int .i64 o, .int .i64 kd, .int .i64 r]) (hS : TOk cap S) (hc : cnt S ≠ cap) (d : D w0 (Tb b cap S :: L) w) (k : ∀ w', D w0 (Tb b cap (adS S ⟨hval (fre S) dr, o, kd, r⟩) :: L) w' → K (.tuple #[.int .i64 (hval (fre S) dr), .int .i64 0]) w') :
    Cl pg 14 #[.pointer (some ⟨b, 0, none⟩), e, .int .i64 dr] K w := by
  subst he
  refine V.handles_Table_Add_ok ?_
  unfold V.handles_Table_Add
  have hS1 := hS.1; have hS2 := hS.2; have hcl := cnt_le S; have hfl := fre_le S
  have hf6 : fre S < 65536 := by
    by_cases h : fre S < S.length
    · omega
    · have : ¬ cnt S < S.length := fun h' => h (fre_full h')
      omega
  obtain ⟨sv, d⟩ := Tb.out d
  refine d_new' [.int .i64 o, .int .i64 kd, .int .i64 r] rfl d fun be w d => ?_
  repeat (first | refine drw d fun w d => ?_ | (simp +decide only [SEM]) | refine qt d ?_ | refine qe_nil ?_ | (apply qlm; (focus ((repeat (first | exact .h _ | refine .t _ _ ?_)); done)); (focus rfl)))
  refine ⟨fun h => absurd h hc, fun _ => ?_⟩
  repeat (apply ldm d; (focus ((repeat (first | exact .h _ | refine .t _ _ ?_)); done)); (focus rfl))
  refine call_of (fun _ _ => rfl) (IndexFunc_ok (D.pick 2 d) (by omega) fun w2 d2 => ?_)
  have hne : hval ((fre S : Nat) : Int) dr ≠ 0 := hval_ne ⟨by omega, by omega⟩
  intro K' hK
  -- the joint: the place is fre S, the row has that place
  have fin : ∀ (S' : List Slot) (sv' : Value) (w3 : World), S'.length ≤ 65536 → fre S < S'.length → S'.set (fre S) ⟨hval (fre S) dr, o, kd, r⟩ = adS S ⟨hval (fre S) dr, o, kd, r⟩ →
      D w0 (Rw 75 4 sv' S'.length (S'.flatMap sc) :: cel b 72 [sv', .int .i64 cap, .int .i64 (cnt S)] :: cel be 35 [.int .i64 o, .int .i64 kd, .int .i64 r] :: L) w3 → K' [.int .i64 (fre S)] w3 := by
    intro S' sv' w3 h6 hlt hset d3
    refine hK _ _ ?_
    intro _
    have lt : ((fre S : Nat) : Int) < S'.length := by omega
    have d := d3
    simp only [UN]
    repeat (first | refine drw d fun w d => ?_ | refine qt d ?_ | refine qe_nil ?_ | (apply qlm; (focus ((repeat (first | exact .h _ | refine .t _ _ ?_)); done)); (focus rfl)) | (apply qam; (focus ((repeat (first | exact .h _ | refine .t _ _ ?_)); done)); (focus rfl)))
    refine fn20 (fun _ _ => rfl) (Value_ok ?_)
    refine ch d ?_
    refine bld_ok (cs := #[.int .i64 (hval (fre S) dr), .int .i64 o, .int .i64 kd, .int .i64 r]) rfl ?_
    refine ch d ?_
    have d3 := d
    obtain ⟨b1, c1, cs, rfl, g1, hg1⟩ := rec_at sc_len d3 (i := (fre S : Int)) (by omega) lt
    refine ia_ok (by omega) lt ?_
    refine rec_st (i := (fre S : Int)) sc_len d3 (by omega) lt (o := 0) (by simp) (by kernel_rfl) (by omega) (ones (by kernel_rfl)) ⟨hval (fre S) dr, o, kd, r⟩ (by kernel_rfl) fun w4 d4 => ?_
    simp only [Int.toNat_natCast, hset] at d4
    have hT := adS_ok' (cap := cap) (o := o) (kd := kd) (r := r) hne hS hc
    have hlen : (adS S ⟨hval (fre S) dr, o, kd, r⟩).length = S'.length := by rw [← hset]; simp
    have d4 := d4.swap
    simp only [NilC_p, FA_p]
    refine ld1 d4.get rfl ?_
    rw [BinI_add, w64 (by omega) (by omega)]
    simp only [NilC_p, FA_p]
    refine d_st d4 rfl (by simp) (ones rfl) fun w5 d5 => ?_
    have d5 : D w0 (cel b 72 [.slice (some ⟨b1, 0, none⟩) S'.length c1, .int .i64 cap, .int .i64 (cnt S + 1)] :: Rw 75 4 (.slice (some ⟨b1, 0, none⟩) S'.length c1) (adS S ⟨hval (fre S) dr, o, kd, r⟩).length ((adS S ⟨hval (fre S) dr, o, kd, r⟩).flatMap sc) :: cel be 35 [.int .i64 o, .int .i64 kd, .int .i64 r] :: L) w5 := d5
    simp only [NilC_p, FA_p]
    refine ld1 d5.get rfl ?_
    refine ia_ok (by omega) lt ?_
    obtain ⟨b2, c2, cs2, e2, g2, hg2⟩ := rec_at sc_len d5.swap (i := (fre S : Int)) (by omega) (by rw [hlen]; exact lt)
    injection e2 with e2a
    cases e2a
    simp only [FA_p]
    have hel : (adS S ⟨hval (fre S) dr, o, kd, r⟩)[(fre S : Int).toNat]'(by rw [hlen]; omega) = ⟨hval (fre S) dr, o, kd, r⟩ := by
      simp only [← hset, Int.toNat_natCast, List.getElem_set_self]
    refine ld1 g2 (v := .int .i64 (hval (fre S) dr)) ?_ (k _ ?_)
    · have := hg2 0 (.int .i64 (hval (fre S) dr)) (by rw [hel]; simp only [sc, List.getElem?_cons_zero])
      simpa using this
    · rw [← hT.2] at d5
      exact (Tb.mk d5).tail2
  by_cases hlt : fre S < S.length
  · simp only [hlt, if_true, NilC_p, FA_p, Cnd_b, BinI_lss, decide_eq_true_eq, decide_eq_false_iff_not]
    refine ⟨fun h => by omega, fun _ => ?_⟩
    exact fin S sv w2 (by omega) hlt (by simp [adS, hlt]) d2.swap2
  · simp only [hlt, if_false, NilC_p, FA_p, Cnd_b, BinI_lss, decide_eq_true_eq, decide_eq_false_iff_not]
    refine ⟨fun _ => ?_, fun h => by omega⟩
    have hfe : fre S = S.length := by omega
    obtain ⟨p, c, rfl, -⟩ := Rw.shape d2.1
    have d2 := D.pick 2 d2
    refine ld1 d2.get rfl ?_
    rw [LenS_s]
    simp only [NilC_p, FA_p]
    refine ld1 d2.get rfl ?_
    refine bld_ok (cs := #[.int .i64 0, .int .i64 0, .int .i64 0, .int .i64 0]) rfl ?_
    refine d_bsl [.int .i64 0, .int .i64 0, .int .i64 0, .int .i64 0] d2 (by decide) (by kernel_rfl) fun bx w3 d3 => ?_
    refine d_app (m := 1) (D.pick 2 d3) (src_of d3.get rfl (ones rfl) 1) rfl (by omega) (by omega) (by omega) (ones rfl) fun sv' w4 d4 => ?_
    obtain ⟨p', c', rfl, -⟩ := Rw.shape d4.1
    simp only [NilC_p, FA_p]
    refine d_st (D.pick 2 d4) rfl (by simp) (ones rfl) fun w5 d5 => ?_
    have d6 : D w0 (cel b 72 [.slice p' (S.length + 1) c', .int .i64 cap, .int .i64 (cnt S)] :: Rw 75 4 (.slice p' (S.length + 1) c') (S.length + 1) (S.flatMap sc ++ [.int .i64 0, .int .i64 0, .int .i64 0, .int .i64 0]) :: cel bx 75 [.int .i64 0, .int .i64 0, .int .i64 0, .int .i64 0] :: cel be 35 [.int .i64 o, .int .i64 kd, .int .i64 r] :: L) w5 := d5
    have d7 := (D.pick 2 d6).tail.swap
    have r := fin (S ++ [⟨0, 0, 0, 0⟩]) (.slice p' (S.length + 1) c') w5 (by simp; omega) (by simp; omega) (by simp [adS, hfe]) (by simpa [sc] using d7)
    rwa [hfe] at r
end
end Go.Proofs.Ytgcnebacjkpfmaa
