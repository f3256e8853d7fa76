/- Several texts of this session's own, joined: Ga, Gb, Gc, Gd, Ge, Gf, Gg, Gh, Gi, Gj, Gk, Gn. -/
import Derived.Test.YtgkbbihaaichbaaYb
import Derived.Test.YtgkbbihaaichbaaYc
import Derived.Laws.Externs
set_option maxRecDepth 100000
set_option maxHeartbeats 4000000
namespace Go.Proofs.Ytgkbbihaaichbaa.Reg
open Go Go.Jac
/-- A piece. -/
structure Pc where
  a : Int
  n : Int
  v : Int
  f : Int
  p : Int
def pc (x : Pc) : List Value := [.int .i64 x.a, .int .i64 x.n, .int .i64 x.v, .int .i64 x.f, .int .i64 x.p]
theorem pc_len (x : Pc) : (pc x).length = 5 := rfl
def nc (n : Int) : List Value := [.int .i64 n]
theorem nc_len (x : Int) : (nc x).length = 1 := rfl
/-- Whole pages. -/
def pgB (k : Int) : Bool := decide (0 ≤ k ∧ k % 64 = 0)
/-- Have they one in common? -/
def ovB (a n b m : Int) : Bool := decide (0 ≤ a ∧ 0 < n ∧ 0 ≤ b ∧ 0 < m ∧ a < b + m ∧ b < a + n)
/-- The numbers of a piece from one on, up to another one. -/
def part (x : Pc) (fr to : Int) : Pc := ⟨max fr x.a, min to (x.a + x.n) - max fr x.a, x.v, x.f + (max fr x.a - x.a), x.p⟩
section
variable {w0 w : World} {L : List HP} {K : Value → WP} {b n : Nat} {sv lv v : Value} {x : Pc}
theorem bsl3 {elem : Nat} {zero : Array Value} {x y z : Value} (hx : x.cells = #[x]) (hy : y.cells = #[y]) (hz : z.cells = #[z]) (d : D w0 L w) (k : ∀ b w', D w0 (cel b elem [x, y, z] :: L) w' → K (.slice (some ⟨b, 0, none⟩) 3 3) w') : BSlC elem 1 zero 3 #[(0, x), (1, y), (2, z)] K w := by
  refine d_bsl [x, y, z] d (by decide) ?_ k
  have e : ((Array.range (3 * 1)).map (zero[· % zero.size]!)) = [zero[0 % zero.size]!, zero[1 % zero.size]!, zero[2 % zero.size]!].toArray := by
    apply Array.ext'
    simp [Array.toList_range, List.range_succ]
  rw [e]
  exact fill1 rfl hx (by simp) (fill1 rfl hy (by simp) (fill1 rfl hz (by simp) rfl))
theorem row_of {l : List Int} {bi : Nat} (d : D w0 (cel bi 3 (l.flatMap nc) :: L) w) : D w0 (Rw 3 1 (.slice (some ⟨bi, 0, none⟩) l.length l.length) l.length (l.flatMap nc) :: L) w :=
  ⟨Rw.mk (junk := []) (by rw [List.append_nil]; exact d.1) (Nat.le_refl _) (flat_len nc_len) (by rw [List.append_nil]; exact flat_len nc_len), d.2⟩
theorem pages_ok {l : List Int} (hl : l.length ≤ 100) (d : D w0 (Rw 3 1 sv l.length (l.flatMap nc) :: L) w) (k : ∀ w', D w0 (Rw 3 1 sv l.length (l.flatMap nc) :: L) w' → K (.bool (l.all pgB)) w') : Cl pg 42 #[sv] K w := by
  refine V.region_pages_ok ?_
  unfold V.region_pages
  refine fn20 (fun _ _ => rfl) (V.slices_ContainsFunc_int_int_ok ?_)
  unfold V.slices_ContainsFunc_int_int
  refine fn20 (fun _ _ => rfl) (V.slices_IndexFunc_int_int_ok ?_)
  refine gidxf_ok (LD := Ld1) (enc := fun x => .int .i64 x) (p := fun k => !pgB k) nc_len (by omega) (fun b o x t cs w K g hc k => hld1 b o (.int .i64 x) t cs w K g hc k) d (fun x w K hx d k => ?_) fun w d => ?_
  · refine fn10 (fun _ _ => rfl) (V.region_pages_c1_ok ?_)
    unfold V.region_pages_c1
    have := k _ d
    repeat (simp +decide only [SEM])
    refine ⟨fun h => ?_, fun h => ?_⟩
    · have e : (!pgB x) = !decide (x.tmod 64 = 0) := by
        unfold pgB
        rw [Int.tmod_eq_emod_of_nonneg (by omega)]
        by_cases h2 : x % 64 = 0
        · simp [h2]; omega
        · simp [h2]
      rwa [e] at this
    · have e : (!pgB x) = true := by unfold pgB; simp; omega
      rwa [e] at this
  · have e : decide (0 ≤ fidx (fun k => !pgB k) l) = !l.all pgB := by
      unfold fidx
      by_cases h : List.findIdx (fun k => !pgB k) l < l.length
      · obtain ⟨y, hy, hy2⟩ := List.findIdx_lt_length.1 h
        rw [if_pos h]
        have h2 : l.all pgB = false := List.all_eq_false.2 ⟨y, hy, by simpa using hy2⟩
        rw [h2]; simp
      · rw [if_neg h]
        have h2 : l.all pgB = true := List.all_eq_true.2 fun y hy => by
          have h3 := mt List.findIdx_lt_length.2 h
          cases hp : pgB y with
          | true => rfl
          | false => exact absurd ⟨y, hy, by simp [hp]⟩ h3
        rw [h2]; simp
    have := k _ d
    repeat (simp +decide only [SEM])
    rw [e, Bool.not_not]
    exact this
theorem wrong_ok {p : Int} (k : K (.bool (decide (p < 0 ∨ 3 < p))) w) : Cl pg 44 #[.int .i64 p] K w := by
  refine V.region_wrong_ok ?_
  unfold V.region_wrong
  repeat (simp +decide only [SEM])
  refine ⟨fun h => ?_, fun h => ?_⟩
  · have e : decide (p < 0 ∨ 3 < p) = decide (3 < p) := by simp; omega
    rwa [e] at k
  · have e : decide (p < 0 ∨ 3 < p) = true := by simp; omega
    rwa [e] at k
theorem Within_ok {at_ m size : Int} (hs : I64 size) (k : K (.bool (decide (0 ≤ at_ ∧ 0 ≤ m ∧ at_ ≤ size ∧ m ≤ size - at_))) w) : Cl pg 26 #[.int .i64 at_, .int .i64 m, .int .i64 size] K w := by
  refine V.num_Within_ok ?_
  unfold V.num_Within
  unfold I64 at hs
  repeat (simp +decide only [SEM])
  refine ⟨fun h => ?_, fun h => ?_⟩
  · refine ⟨fun h2 => ?_, fun h2 => ?_⟩
    · refine ⟨fun h3 => ?_, fun h3 => ?_⟩
      · rw [w64 (by omega) (by omega)]
        have e : decide (0 ≤ at_ ∧ 0 ≤ m ∧ at_ ≤ size ∧ m ≤ size - at_) = decide (m ≤ size - at_) := by rw [decide_eq_decide]; omega
        rwa [e] at k
      · have e : decide (0 ≤ at_ ∧ 0 ≤ m ∧ at_ ≤ size ∧ m ≤ size - at_) = false := decide_eq_false (by omega)
        rwa [e] at k
    · have e : decide (0 ≤ at_ ∧ 0 ≤ m ∧ at_ ≤ size ∧ m ≤ size - at_) = false := decide_eq_false (by omega)
      rwa [e] at k
  · have e : decide (0 ≤ at_ ∧ 0 ≤ m ∧ at_ ≤ size ∧ m ≤ size - at_) = false := decide_eq_false (by omega)
    rwa [e] at k
theorem min4_ok {ts : Array TypeId} {t : TypeId} {x y z u : Int} {P : Program} (kk : ∀ r, (r < 0 ↔ x < 0 ∨ y < 0 ∨ z < 0 ∨ u < 0) → K (.int .i64 r) w) : Ex P (Builtin.min_ ts t #[.int .i64 x, .int .i64 y, .int .i64 z, .int .i64 u]) K w := by
  refine ⟨_, w, by simp [Builtin.min_, Builtin.min2]; rfl, kk _ ?_⟩
  split <;> split <;> split <;> omega
theorem Overlap_ok {a n c m : Int} (h1 : I64 a) (h2 : I64 c) (h3 : I64 n) (h4 : I64 m) (hs1 : a + n ≤ 4611686018427387904) (hs2 : c + m ≤ 4611686018427387904) (k : K (.bool (ovB a n c m)) w) : Cl pg 73 #[.int .i64 a, .int .i64 n, .int .i64 c, .int .i64 m] K w := by
  refine V.num_Overlap_ok ?_
  unfold V.num_Overlap
  unfold I64 at *
  refine min4_ok fun r hr => ?_
  repeat (simp +decide only [SEM])
  have no : (a < 0 ∨ n ≤ 0 ∨ c < 0 ∨ m ≤ 0) → K (.bool false) w := fun h => by
    have e : ovB a n c m = false := by unfold ovB; simp; omega
    rwa [e] at k
  refine ⟨fun h => ?_, fun h => ?_⟩
  · refine ⟨fun h5 => ?_, fun h5 => no (by omega)⟩
    refine ⟨fun h6 => no (by omega), fun h6 => ?_⟩
    refine ⟨fun h7 => ?_, fun h7 => ?_⟩
    · rw [w64 (by omega) (by omega)]
      have e : ovB a n c m = decide (c - a < n) := by unfold ovB; rw [decide_eq_decide]; omega
      rwa [e] at k
    · rw [w64 (by omega) (by omega)]
      have e : ovB a n c m = decide (a - c < m) := by unfold ovB; rw [decide_eq_decide]; omega
      rwa [e] at k
  · rcases hr.1 h with h | h | h | h
    · exact no (by omega)
    · exact no (by omega)
    · exact no (by omega)
    · exact no (by omega)
theorem end_ok (hb : 0 ≤ x.a ∧ x.a ≤ 8589934592 ∧ 0 ≤ x.n ∧ x.n ≤ 8589934592) (d : D w0 L w) (k : ∀ w', D w0 L w' → K (.int .i64 (x.a + x.n)) w') : Cl pg 43 #[.agg (pc x).toArray] K w := by
  refine V.region_Piece_end_ok ?_
  unfold V.region_Piece_end
  simp only [cells_agg]
  unfold pc
  repeat (first | (simp +decide only [SEM]) | (apply ldm d; (focus ((repeat (first | exact .h _ | refine .t _ _ ?_)); done)); (focus rfl)) | (refine d_new _ d fun bn w d => ?_))
  rw [w64 (by omega) (by omega)]
  exact k _ d.tail
theorem part_ok {fr to : Int} (hb : 0 ≤ x.a ∧ x.a ≤ 8589934592 ∧ 0 ≤ x.n ∧ x.n ≤ 8589934592 ∧ 0 ≤ x.f ∧ x.f ≤ 34359738368) (hf : 0 ≤ fr ∧ fr ≤ 17179869184) (ht : 0 ≤ to ∧ to ≤ 17179869184) (d : D w0 L w)
    (k : ∀ w', D w0 L w' → K (.agg (pc (part x fr to)).toArray) w') : Cl pg 77 #[.agg (pc x).toArray, .int .i64 fr, .int .i64 to] K w := by
  refine V.region_Piece_part_ok ?_
  unfold V.region_Piece_part
  simp only [cells_agg]
  have hpc : pc x = [.int .i64 x.a, .int .i64 x.n, .int .i64 x.v, .int .i64 x.f, .int .i64 x.p] := rfl
  rw [hpc]
  refine d_new _ d fun bn w d => ?_
  generalize bn = b1 at d ⊢
  repeat (first | refine drw d fun w d => ?_ | (refine d_new _ d fun bn w d => ?_))
  intro vK hvK
  repeat (first | refine qt d ?_ | refine qe_nil ?_ | (apply qlm; (focus ((repeat (first | exact .h _ | refine .t _ _ ?_)); done)); (focus rfl)) | (apply qam; (focus ((repeat (first | exact .h _ | refine .t _ _ ?_)); done)); (focus rfl)) | refine qe _ (fun w d => max2_ok ⟨rfl, rfl⟩) ?_)
  refine fn10 (fun _ _ => rfl) (end_ok (x := x) ⟨hb.1, hb.2.1, hb.2.2.1, hb.2.2.2.1⟩ d fun w d => ?_)
  repeat (refine ch d ?_)
  have fin : vK [.int .i64 (min to (x.a + x.n)), .int .i64 (max fr x.a)] w := by
    refine hvK _ _ ?_
    intro _
    simp only [UN]
    repeat (first | (simp +decide only [SEM]) | (apply ldm d; (focus ((repeat (first | exact .h _ | refine .t _ _ ?_)); done)); (focus rfl)) | (apply lam d; (focus ((repeat (first | exact .h _ | refine .t _ _ ?_)); done)); (focus rfl)) | (apply swm d; (focus ((repeat (first | exact .h _ | apply Rp.t)); done)); (focus rfl); (focus rfl); (focus exact ones rfl); intro w d; simp only [SPL] at d) | (apply stm d; (focus ((repeat (first | exact .h _ | apply Rp.t)); done)); (focus rfl); (focus simp); (focus exact ones rfl); intro w d; simp only [SPL] at d))
    have e1 : IntKind.i64.wrap (max fr x.a - x.a) = max fr x.a - x.a := w64 (by omega) (by omega)
    rw [e1] at d
    have e2 : IntKind.i64.wrap (x.f + (max fr x.a - x.a)) = x.f + (max fr x.a - x.a) := w64 (by omega) (by omega)
    have e3 : IntKind.i64.wrap (min to (x.a + x.n) - max fr x.a) = min to (x.a + x.n) - max fr x.a := w64 (by omega) (by omega)
    rw [e1, e2, e3]
    exact k _ d.tail.tail
  exact ⟨min2_ok ⟨d, fin⟩, min2_ok ⟨d, fin⟩⟩
end
end Go.Proofs.Ytgkbbihaaichbaa.Reg

set_option maxRecDepth 100000
set_option maxHeartbeats 4000000
namespace Go.Proofs.Ytgkbbihaaichbaa.Reg
open Go Go.Jac
structure Pok (size : Int) (x : Pc) : Prop where
  a0 : 0 ≤ x.a
  n0 : 0 < x.n
  am : x.a % 64 = 0
  nm : x.n % 64 = 0
  en : x.a + x.n ≤ size
  f0 : 0 ≤ x.f
  fm : x.f % 64 = 0
  fa : x.f - x.a ≤ 4294967296
  pr : 0 ≤ x.p ∧ x.p ≤ 3
structure Rok (size most : Int) (S : List Pc) : Prop where
  sz : 0 ≤ size ∧ size ≤ 4294967296
  mo : 0 ≤ most ∧ most ≤ 65536
  all : ∀ x ∈ S, Pok size x
  up : S.Pairwise fun x y => x.a + x.n ≤ y.a
  len : S.length ≤ most
def Rg (b : Nat) (size most : Int) (S : List Pc) : HP := ex fun v => sat [pr (Rok size most S), cel b 92 [.int .i64 size, .int .i64 most, v], Rw 72 5 v S.length (S.flatMap pc)]
section
variable {w0 w : World} {L : List HP} {K : Value → WP} {b n : Nat} {size most : Int} {sv lv v : Value} {x : Pc} {S : List Pc}
theorem Rg.out (d : D w0 (Rg b size most S :: L) w) : Rok size most S ∧ ∃ v, D w0 (cel b 92 [.int .i64 size, .int .i64 most, v] :: Rw 72 5 v S.length (S.flatMap pc) :: L) w := by
  obtain ⟨v, d⟩ := d.ex
  have d := d.opens
  exact ⟨Sat.pr_out d.1, v, d.tail⟩
theorem Rg.mk (h : Rok size most S) (d : D w0 (cel b 92 [.int .i64 size, .int .i64 most, v] :: Rw 72 5 v S.length (S.flatMap pc) :: L) w) : D w0 (Rg b size most S :: L) w :=
  D.mk_ex (A := fun v => sat [pr (Rok size most S), cel b 92 [.int .i64 size, .int .i64 most, v], Rw 72 5 v S.length (S.flatMap pc)]) v (D.close (M := [_, _, _]) ⟨Sat.pr_mk h d.1, d.2⟩)
theorem Rg.facts (d : D w0 (Rg b size most S :: L) w) : Rok size most S := (Rg.out d).1
theorem New_ok (hs : 0 ≤ size ∧ size ≤ 4294967296) (h64 : size % 64 = 0) (hm : 0 ≤ most ∧ most ≤ 65536) (d : D w0 L w) (k : ∀ b w', D w0 (Rg b size most [] :: L) w' → K (.pointer (some ⟨b, 0, none⟩)) w') : Cl pg 24 #[.int .i64 size, .int .i64 most] K w := by
  refine V.region_New_ok ?_
  unfold V.region_New
  repeat (simp +decide only [SEM])
  refine ⟨fun _ => ⟨fun _ => ?_, fun h => by omega⟩, fun h => by omega⟩
  repeat (refine bsl1 (by first | rfl | (simp only [cells_agg, cells_int, cells_bool, cells_ptr, cells_sl, cells_map, cells_fn, List.drop_succ_cons, List.drop_zero, List.take_succ_cons, List.take_zero, Nat.zero_add, Nat.reduceAdd, Int.toNat_natCast, Int.toNat_zero]; rfl)) rfl d (by decide) (by decide) fun bn w d => ?_)
  have d := row_of (l := [size]) d
  refine fn10 (fun _ _ => rfl) (pages_ok (l := [size]) (by simp) d fun w d => ?_)
  have e : ([size] : List Int).all pgB = true := by simp [pgB]; omega
  rw [e]
  repeat (simp +decide only [SEM])
  refine ⟨fun _ => ⟨fun h => by omega, fun _ => ?_⟩, fun h => by omega⟩
  repeat (first | (simp +decide only [SEM]) | (((repeat (refine bld_c rfl rfl (by simp) ?_; simp only [List.set_cons_zero, List.set_cons_succ])); refine bld_n ?_)) | (refine d_new _ d fun bn w d => ?_))
  exact k _ _ (Rg.mk (S := []) ⟨hs, hm, by simp, List.Pairwise.nil, by simp; omega⟩ (D.swap ⟨Rw.nil _ _ d.tail2.1, d.2⟩))
/-- Going through those that have one of some numbers, till the first. -/
theorem over_ok {at_ m : Int} {b1 b2 b3 l : Nat} (hI : I64 at_) (hm : I64 m) (hs : at_ + m ≤ 4611686018427387904) (hv : ∀ x ∈ S, I64 x.v)
    (d : D w0 (cel b3 3 [.int .i64 m] :: cel b2 3 [.int .i64 at_] :: cel b1 61 [.pointer (some ⟨b, 0, none⟩)] :: Rg b size most S :: L) w)
    (h1 : (∀ x ∈ S, ovB x.a x.n at_ m = false) → ∀ w', D w0 (cel b3 3 [.int .i64 m] :: cel b2 3 [.int .i64 at_] :: cel b1 61 [.pointer (some ⟨b, 0, none⟩)] :: Rg b size most S :: L) w' → K (.tuple #[]) w')
    (h2 : ∀ i (hi : i < S.length), ovB S[i].a S[i].n at_ m = true → (∀ j (hj : j < S.length), j < i → ovB S[j].a S[j].n at_ m = false) → ∀ w', D w0 (cel b3 3 [.int .i64 m] :: cel b2 3 [.int .i64 at_] :: cel b1 61 [.pointer (some ⟨b, 0, none⟩)] :: Rg b size most S :: L) w' → ∀ K' : Value → WP, (∀ w'', K (.tuple #[]) w'' → K' (.bool false) w'') → FnV pg (.func (.yield l) #[] #[]) #[.int .i64 i, .agg (pc S[i]).toArray] K' w') :
    Cl pg 72 #[.func (.yield l) #[] #[], .pointer (some ⟨b1, 0, none⟩), .pointer (some ⟨b2, 0, none⟩), .pointer (some ⟨b3, 0, none⟩)] K w := by
  refine V.region_Region_over_c1_ok ?_
  unfold V.region_Region_over_c1
  obtain ⟨ok, v, d⟩ := Rg.out (D.sel [3, 0, 1, 2] d)
  obtain ⟨q, c, rfl, -⟩ := Rw.shape d.swap.1
  have hl := ok.len
  have hmo := ok.mo
  repeat (first | (simp +decide only [SEM]) | (apply ldm d; (focus ((repeat (first | exact .h _ | refine .t _ _ ?_)); done)); (focus rfl)))
  refine ⟨fun vs w' => ∃ (i : Nat), vs = [.int .i64 i] ∧ i ≤ S.length ∧ (∀ j (hj : j < S.length), j < i → ovB S[j].a S[j].n at_ m = false) ∧ D w0 (cel b 92 [.int .i64 size, .int .i64 most, .slice q S.length c] :: Rw 72 5 (.slice q S.length c) S.length (S.flatMap pc) :: cel b3 3 [.int .i64 m] :: cel b2 3 [.int .i64 at_] :: cel b1 61 [.pointer (some ⟨b, 0, none⟩)] :: L) w', fun vs _ => match vs with | [.int _ i] => S.length - i.toNat | _ => 0, ⟨0, rfl, by omega, fun j _ h => by omega, d⟩, ?_⟩
  clear d
  rintro _ w ⟨i, rfl, hi, hno, d⟩ _
  simp only [UN]
  repeat (simp +decide only [SEM])
  refine ⟨fun hlt => ?_, fun hge => ?_⟩
  · have hlt' : i < S.length := by omega
    have hp := ok.all _ (List.getElem_mem hlt')
    have hsz := ok.sz
    have g1 := hp.n0
    have g2 := hp.en
    have g3 := hp.a0
    refine rw_elN d (.t _ _ (.h _)) pc_len hlt' ?_
    generalize hx : S[i] = x at *
    have hpx : pc x = [.int .i64 x.a, .int .i64 x.n, .int .i64 x.v, .int .i64 x.f, .int .i64 x.p] := rfl
    rw [hpx]
    repeat (first | (simp +decide only [SEM]) | (apply ldm d; (focus ((repeat (first | exact .h _ | refine .t _ _ ?_)); done)); (focus rfl)) | (refine d_new _ d fun bn w d => ?_) | (apply swm d; (focus ((repeat (first | exact .h _ | apply Rp.t)); done)); (focus rfl); (focus rfl); (focus exact ones rfl); intro w d; simp only [SPL] at d))
    generalize bn = bx at d ⊢
    refine fn40 (fun _ _ => rfl) (Overlap_ok ⟨by omega, by omega⟩ hI ⟨by omega, by omega⟩ hm (by omega) hs ?_)
    repeat (simp +decide only [SEM])
    refine ⟨fun ho => ?_, fun ho => ?_⟩
    · repeat (apply lam d; (focus ((repeat (first | exact .h _ | refine .t _ _ ?_)); done)); (focus rfl))
      have hi2 := h2 i hlt' (by rw [hx]; exact ho) hno w (D.sel [1, 2, 3, 0] (Rg.mk ok d.tail))
      rw [hx] at hi2
      refine hi2 _ fun w'' hk => ?_
      repeat (simp +decide only [SEM])
      exact hk
    · rw [w64 (by omega) (by omega)]
      refine ⟨⟨i + 1, by simp, by omega, fun j hj hji => ?_, d.tail⟩, by omega⟩
      rcases Nat.lt_or_eq_of_le (Nat.le_of_lt_succ hji) with h | h
      · exact hno j hj h
      · subst h
        rw [hx]
        exact ho
  · refine h1 (fun x hx => ?_) w (D.sel [1, 2, 3, 0] (Rg.mk ok d))
    obtain ⟨j, hj, rfl⟩ := List.getElem_of_mem hx
    exact hno j hj (by omega)
/-- Which piece has a number. -/
def fnd (S : List Pc) (t : Int) : Option Pc := S.find? fun x => ovB x.a x.n t 1
def pcO : Option Pc → List Value
  | some x => pc x
  | none => [.int .i64 0, .int .i64 0, .int .i64 0, .int .i64 0, .int .i64 0]
end
end Go.Proofs.Ytgkbbihaaichbaa.Reg

set_option maxRecDepth 100000
set_option maxHeartbeats 8000000
namespace Go.Proofs.Ytgkbbihaaichbaa.Reg
open Go Go.Jac
def cmpI (a b : Int) : Int := if a < b then -1 else if b < a then 1 else 0
theorem ovl (a b : Addr) (la ca lb cb : Nat) (w : World) (h : (Extern.SlicesOverlaps.overlaps #[33, 33] #[4] #[.slice (some a) la ca, .slice (some b) lb cb]).run pg w = .ok (.bool false) w) :
    (callFunc 75 #[.slice (some a) la ca, .slice (some b) lb cb]).run pg w = .ok (.value (.bool false)) w := by
  rw [run_callFunc_extern Try.func75 (by kernel_rfl) (by kernel_rfl) (by kernel_rfl) (e := Extern.SlicesOverlaps.overlaps #[33, 33] #[4]) (by kernel_rfl), h]
  rfl
/-- Whether a piece can be put, and what is told. -/
def putSt (size most : Int) (S : List Pc) (x : Pc) : Int :=
  if ¬ (pgB x.a && pgB x.n && pgB x.f) = true ∨ x.n = 0 ∨ 4294967296 < x.f ∨ (x.p < 0 ∨ 3 < x.p) then -10
  else if ¬ (0 ≤ x.a ∧ 0 ≤ x.n ∧ x.a ≤ size ∧ x.n ≤ size - x.a) then -14
  else if ∃ y ∈ S, ovB y.a y.n x.a x.n = true then -26
  else if most ≤ S.length then -4 else 0
structure PutOk (size most : Int) (S : List Pc) (x : Pc) : Prop where
  am : x.a % 64 = 0
  nm : x.n % 64 = 0
  fm : x.f % 64 = 0
  a0 : 0 ≤ x.a
  n0 : 0 < x.n
  en : x.a + x.n ≤ size
  f0 : 0 ≤ x.f ∧ x.f ≤ 4294967296
  pr : 0 ≤ x.p ∧ x.p ≤ 3
  no : ∀ y ∈ S, ovB y.a y.n x.a x.n = false
  len : S.length < most
theorem put0 {size most : Int} {S : List Pc} {x : Pc} : putSt size most S x = 0 ↔ PutOk size most S x := by
  unfold putSt pgB
  constructor
  · intro h
    split at h
    · omega
    · rename_i h1
      split at h
      · omega
      · rename_i h2
        split at h
        · omega
        · rename_i h3
          split at h
          · omega
          · rename_i h4
            simp only [Bool.and_eq_true, decide_eq_true_eq, not_or] at h1
            refine ⟨by omega, by omega, by omega, by omega, by omega, by omega, by omega, by omega, fun y hy => ?_, by omega⟩
            cases ho : ovB y.a y.n x.a x.n with
            | false => rfl
            | true => exact absurd ⟨y, hy, ho⟩ h3
  · intro h
    have := h.am; have := h.nm; have := h.fm; have := h.a0; have := h.n0; have := h.en; have := h.f0; have := h.pr; have := h.len
    rw [if_neg (by simp only [Bool.and_eq_true, decide_eq_true_eq, not_or]; omega), if_neg (by omega), if_neg (fun ⟨y, hy, ho⟩ => by rw [h.no y hy] at ho; cases ho), if_neg (by omega)]
/-- Where it goes. -/
def pos (S : List Pc) (a : Int) : Nat := S.findIdx fun y => decide (a ≤ y.a)
def insP (S : List Pc) (x : Pc) : List Pc := S.take (pos S x.a) ++ x :: S.drop (pos S x.a)
theorem pos_le (S : List Pc) (a : Int) : pos S a ≤ S.length := List.findIdx_le_length
theorem pos_of {S : List Pc} {a : Int} {i : Nat} (hi : i ≤ S.length) (h1 : ∀ k (h : k < S.length), k < i → S[k].a < a) (h2 : ∀ k (h : k < S.length), i ≤ k → a ≤ S[k].a) : pos S a = i := by
  unfold pos
  rcases Nat.lt_or_eq_of_le hi with h | h
  · rw [List.findIdx_eq h]
    exact ⟨by simpa using h2 i h (Nat.le_refl _), fun j hj => by simpa using h1 j (by omega) hj⟩
  · subst h
    rw [List.findIdx_eq_length]
    intro y hy
    obtain ⟨k, hk, rfl⟩ := List.getElem_of_mem hy
    have := h1 k hk hk
    simp; omega
theorem ov_apart {y x : Pc} (hy : 0 ≤ y.a ∧ 0 < y.n) (hx : 0 ≤ x.a ∧ 0 < x.n) (h : ovB y.a y.n x.a x.n = false) : y.a + y.n ≤ x.a ∨ x.a + x.n ≤ y.a := by
  unfold ovB at h
  have := of_decide_eq_false h
  omega
theorem up_a {size most : Int} {S : List Pc} (h : Rok size most S) {i j : Nat} (hi : i < S.length) (hj : j < S.length) (hij : i < j) : S[i].a + S[i].n ≤ S[j].a := List.pairwise_iff_getElem.1 h.up i j hi hj hij
theorem ins_rok {size most : Int} {S : List Pc} {x : Pc} (h : Rok size most S) (g : PutOk size most S x) : Rok size most (insP S x) := by
  have hpl := pos_le S x.a
  have hb : ∀ y ∈ S.take (pos S x.a), y.a + y.n ≤ x.a := fun y hy => by
    obtain ⟨k, hk, rfl⟩ := List.getElem_of_mem hy
    rw [List.length_take] at hk
    rw [List.getElem_take]
    have hkl : k < S.length := by omega
    have hp := h.all _ (List.getElem_mem hkl)
    have h1 : ¬ x.a ≤ S[k].a := of_decide_eq_false (List.not_of_lt_findIdx (p := fun y : Pc => decide (x.a ≤ y.a)) (xs := S) (i := k) (by unfold pos at hk; omega))
    have := g.n0
    rcases ov_apart ⟨hp.a0, hp.n0⟩ ⟨g.a0, g.n0⟩ (g.no _ (List.getElem_mem hkl)) with h2 | h2
    · exact h2
    · omega
  have ha : ∀ y ∈ S.drop (pos S x.a), x.a + x.n ≤ y.a := fun y hy => by
    obtain ⟨k, hk, rfl⟩ := List.getElem_of_mem hy
    rw [List.length_drop] at hk
    rw [List.getElem_drop]
    have hkl : pos S x.a + k < S.length := by omega
    have hp := h.all _ (List.getElem_mem hkl)
    have h1 : x.a ≤ S[pos S x.a + k].a := by
      have h0 : x.a ≤ S[pos S x.a].a := by
        have := List.findIdx_getElem (p := fun y : Pc => decide (x.a ≤ y.a)) (xs := S) (w := by unfold pos at hkl; omega)
        simpa [pos] using this
      rcases Nat.eq_zero_or_pos k with hk0 | hk0
      · subst hk0; exact h0
      · have h2 := up_a h (i := pos S x.a) (j := pos S x.a + k) (by omega) hkl (by omega)
        have h3 := (h.all _ (List.getElem_mem (show pos S x.a < S.length by omega))).n0
        omega
    have := hp.n0
    rcases ov_apart ⟨hp.a0, hp.n0⟩ ⟨g.a0, g.n0⟩ (g.no _ (List.getElem_mem hkl)) with h2 | h2
    · omega
    · exact h2
  refine ⟨h.sz, h.mo, fun y hy => ?_, ?_, ?_⟩
  · rcases List.mem_append.1 hy with hy | hy
    · exact h.all y (List.mem_of_mem_take hy)
    · rcases List.mem_cons.1 hy with rfl | hy
      · exact ⟨g.a0, g.n0, g.am, g.nm, g.en, g.f0.1, g.fm, by have := g.f0.2; have := g.a0; omega, g.pr⟩
      · exact h.all y (List.mem_of_mem_drop hy)
  · unfold insP
    rw [List.pairwise_append]
    refine ⟨h.up.sublist (List.take_sublist _ _), List.pairwise_cons.2 ⟨ha, h.up.sublist (List.drop_sublist _ _)⟩, fun y hy z hz => ?_⟩
    rcases List.mem_cons.1 hz with rfl | hz
    · exact hb y hy
    · have := hb y hy
      have := ha z hz
      have := g.n0
      omega
  · unfold insP
    rw [List.length_append, List.length_cons, List.length_take, List.length_drop]
    have := g.len
    omega
theorem ins_perm {S : List Pc} {x : Pc} : (insP S x).Perm (x :: S) := by
  unfold insP
  refine List.perm_middle.trans (List.Perm.cons x ?_)
  rw [List.take_append_drop]
section
variable {w0 w : World} {L : List HP} {K : Value → WP} {b n : Nat} {size most : Int} {sv lv v : Value} {x : Pc} {S : List Pc}
theorem Compare_ok {x y : Int} (k : K (.int .i64 (cmpI x y)) w) : Cl pg 48 #[.int .i64 x, .int .i64 y] K w := by
  refine V.cmp_Compare_int_ok ?_
  unfold V.cmp_Compare_int
  have nan : ∀ (x : Int) (K : Value → WP), K (.bool false) w → FnV pg (.func (.func 74) #[] #[]) #[.int .i64 x] K w := by
    intro x K k
    refine fn10 (fun _ _ => rfl) (V.cmp_isNaN_int_ok ?_)
    unfold V.cmp_isNaN_int
    repeat (simp +decide only [SEM])
    exact k
  refine nan _ _ (nan _ _ ?_)
  unfold cmpI at k
  repeat (simp +decide only [SEM])
  refine ⟨fun h => ?_, fun h => ⟨fun h2 => ?_, fun h2 => ?_⟩⟩
  · rw [if_pos h] at k; exact k
  · rw [if_neg h, if_pos h2] at k; exact k
  · rw [if_neg h, if_neg h2] at k; exact k
theorem putc_ok {t : Int} (d : D w0 L w) (k : ∀ w', D w0 L w' → K (.int .i64 (cmpI x.a t)) w') : FnV pg (.func (.func 47) #[] #[]) #[.agg (pc x).toArray, .int .i64 t] K w := by
  refine fn20 (fun _ _ => rfl) (V.region_Region_Put_c1_ok ?_)
  unfold V.region_Region_Put_c1
  simp only [cells_agg]
  have hpx : pc x = [.int .i64 x.a, .int .i64 x.n, .int .i64 x.v, .int .i64 x.f, .int .i64 x.p] := rfl
  rw [hpx]
  repeat (first | (simp +decide only [SEM]) | (apply ldm d; (focus ((repeat (first | exact .h _ | refine .t _ _ ?_)); done)); (focus rfl)) | (refine d_new _ d fun bn w d => ?_))
  refine fn20 (fun _ _ => rfl) (Compare_ok ?_)
  exact k _ d.tail
theorem half {i j : Nat} (h : i + j ≤ 1000000) : IntKind.i64.wrap ((IntKind.u64.wrap (IntKind.i64.wrap ((i : Int) + (j : Int)))).fdiv (2 ^ (1 : Int).toNat)) = (((i + j) / 2 : Nat) : Int) := by
  have h0 : IntKind.i64.wrap ((i : Int) + (j : Int)) = (i : Int) + (j : Int) := w64 (by omega) (by omega)
  have h1 : IntKind.u64.wrap ((i : Int) + (j : Int)) = (i : Int) + (j : Int) := by
    unfold IntKind.wrap
    simp [IntKind.signed, IntKind.bits]
    omega
  rw [h0, h1]
  have h2 : ((i : Int) + (j : Int)).fdiv (2 ^ (1 : Int).toNat) = (((i + j) / 2 : Nat) : Int) := by
    rw [Int.fdiv_eq_ediv_of_nonneg _ (by decide)]
    have : (2 : Int) ^ (1 : Int).toNat = 2 := by decide
    rw [this]
    omega
  rw [h2, w64 (by omega) (by omega)]
theorem bins_ok {t : Int} (ok : Rok size most S) (d : D w0 (Rw 72 5 sv S.length (S.flatMap pc) :: L) w) (k : ∀ r w', D w0 (Rw 72 5 sv S.length (S.flatMap pc) :: L) w' → K (.tuple #[.int .i64 (pos S t), .bool r]) w') :
    Cl pg 46 #[sv, .int .i64 t, .func (.func 47) #[] #[]] K w := by
  refine V.slices_BinarySearchFunc_Piece_Piece_int_ok ?_
  unfold V.slices_BinarySearchFunc_Piece_Piece_int
  obtain ⟨q, c, rfl, -⟩ := Rw.shape d.1
  have hl := ok.len
  have hmo := ok.mo
  repeat (simp +decide only [SEM])
  refine ⟨fun vs w' => ∃ (i j : Nat), vs = [.int .i64 i, .int .i64 j] ∧ i ≤ j ∧ j ≤ S.length ∧ (∀ k (h : k < S.length), k < i → S[k].a < t) ∧ (∀ k (h : k < S.length), j ≤ k → t ≤ S[k].a) ∧ D w0 (Rw 72 5 (.slice q S.length c) S.length (S.flatMap pc) :: L) w', fun vs _ => match vs with | [.int _ i, .int _ j] => j.toNat - i.toNat | _ => 0, ⟨0, S.length, rfl, by omega, by omega, fun k _ h => by omega, fun k h h2 => by omega, d⟩, ?_⟩
  clear d
  rintro _ w ⟨i, j, rfl, hij, hj, h1, h2, d⟩ _
  simp only [UN]
  repeat (simp +decide only [SEM])
  refine ⟨fun hlt => ?_, fun hge => ?_⟩
  · have hlt' : i < j := by omega
    have hh := half (i := i) (j := j) (by omega)
    rw [hh]
    have hm : (i + j) / 2 < S.length := by omega
    refine rw_elN d (.h _) pc_len hm ?_
    refine putc_ok d fun w d => ?_
    unfold cmpI
    repeat (simp +decide only [SEM])
    have mono : ∀ a b (ha : a < S.length) (hb : b < S.length), a ≤ b → S[a].a ≤ S[b].a := fun a b ha hb hab => by
      rcases Nat.lt_or_eq_of_le hab with h | h
      · have := up_a ok ha hb h
        have := (ok.all _ (List.getElem_mem ha)).n0
        omega
      · subst h; exact Int.le_refl _
    refine ⟨fun hc => ?_, fun hc => ?_⟩
    · have hlt2 : S[(i + j) / 2].a < t := by
        split at hc
        · assumption
        · split at hc <;> omega
      rw [w64 (by omega) (by omega)]
      refine ⟨⟨(i + j) / 2 + 1, j, by simp, by omega, hj, fun k hk hki => ?_, h2, d⟩, by omega⟩
      have := mono k ((i + j) / 2) hk hm (by omega)
      omega
    · have hge2 : t ≤ S[(i + j) / 2].a := by
        split at hc
        · omega
        · omega
      refine ⟨⟨i, (i + j) / 2, rfl, by omega, by omega, h1, fun k hk hki => ?_, d⟩, by omega⟩
      have := mono ((i + j) / 2) k hm hk hki
      omega
  · have e : i = j := by omega
    subst e
    have hp : pos S t = i := pos_of hj h1 h2
    rw [hp] at k
    refine ⟨fun h3 => ?_, fun h3 => k _ _ d⟩
    have hi : i < S.length := by omega
    refine rw_elN d (.h _) pc_len hi ?_
    refine putc_ok d fun w d => ?_
    repeat (simp +decide only [SEM])
    exact k _ _ d
theorem pcs_one : ∀ u ∈ S.flatMap pc, u.oneCell' = true := by
  intro u hu
  obtain ⟨x, hx, hu⟩ := List.mem_flatMap.1 hu
  exact ones (l := pc x) rfl u hu
theorem insert_ok {i bs c1 : Nat} (hi : i ≤ S.length) (hl : S.length ≤ 65536) (d : D w0 (Rw 72 5 sv S.length (S.flatMap pc) :: cel bs 72 (pc x) :: L) w)
    (k : ∀ sv' w', D w0 (Rw 72 5 sv' (S.take i ++ x :: S.drop i).length ((S.take i ++ x :: S.drop i).flatMap pc) :: cel bs 72 (pc x) :: L) w' → K sv' w') :
    Cl pg 49 #[sv, .int .i64 i, .slice (some ⟨bs, 0, none⟩) 1 c1] K w := by
  refine V.slices_Insert_Piece_Piece_ok ?_
  have ef : S.flatMap pc = (S.take i).flatMap pc ++ (S.drop i).flatMap pc := by rw [← List.flatMap_append, List.take_append_drop]
  rw [ef] at d
  obtain ⟨inf, hinf⟩ := Option.isSome_iff_exists.1 (show (pg.info? 72).isSome = true from by kernel_rfl)
  have hes : (pg.info? 72).map (·.size) = some 5 := by kernel_rfl
  have hby : (pg.info? 72).map (·.bytes) = some 40 := by kernel_rfl
  have hzz : ((pg.info? 72).bind (·.zero)).map (·.cells) = some #[.int .i64 0, .int .i64 0, .int .i64 0, .int .i64 0, .int .i64 0] := by kernel_rfl
  rw [hinf] at hes hby hzz
  simp only [Option.map_some, Option.some.injEq, Option.bind_some] at hes hby hzz
  obtain ⟨z, hiz, hz⟩ := Option.map_eq_some_iff.1 hzz
  refine gins_ok (K := K) (P := pg) (n := S.length) (i := i) (tb := 4) Try.underlying33 Try.underlying3 hinf hes hby hiz hz rfl (by decide) (fun a b la ca lb cb w h => ovl a b la ca lb cb w h) (by rw [← ef]; exact pcs_one) (ones rfl) ?_ ?_ hi (pc_len x) hl (by decide) d fun sv' w d => ?_
  · rw [flat_len pc_len, List.length_take]; congr 1; omega
  · rw [flat_len pc_len, List.length_drop]
  · have e1 : (S.take i ++ x :: S.drop i).length = S.length + 1 := by rw [List.length_append, List.length_cons, List.length_take, List.length_drop]; omega
    have e2 : (S.take i ++ x :: S.drop i).flatMap pc = (S.take i).flatMap pc ++ pc x ++ (S.drop i).flatMap pc := by rw [List.flatMap_append, List.flatMap_cons, List.append_assoc]
    refine k _ _ ?_
    rw [e1, e2]
    exact d
end
end Go.Proofs.Ytgkbbihaaichbaa.Reg

set_option maxRecDepth 100000
set_option maxHeartbeats 8000000
namespace Go.Proofs.Ytgkbbihaaichbaa.Reg
open Go Go.Jac
/-- What stays outside of a cut, and what lies within. -/
def outP (at_ m : Int) (x : Pc) : List Pc := if ovB x.a x.n at_ m = true then (if x.a < at_ then [part x x.a at_] else []) ++ (if at_ + m < x.a + x.n then [part x (at_ + m) (x.a + x.n)] else []) else [x]
def inP (at_ m : Int) (x : Pc) : List Pc := if ovB x.a x.n at_ m = true then [part x at_ (at_ + m)] else []
def chkSt (size at_ m : Int) : Int := if ¬ (pgB at_ && pgB m) = true ∨ m = 0 then -10 else if ¬ (0 ≤ at_ ∧ 0 ≤ m ∧ at_ ≤ size ∧ m ≤ size - at_) then -14 else 0
theorem chk0 {size at_ m : Int} (h : chkSt size at_ m = 0) : at_ % 64 = 0 ∧ m % 64 = 0 ∧ 0 ≤ at_ ∧ 0 < m ∧ at_ + m ≤ size := by
  unfold chkSt pgB at h
  split at h
  · omega
  · rename_i h1
    split at h
    · omega
    · simp only [Bool.and_eq_true, decide_eq_true_eq, not_or] at h1
      omega
section
variable {w0 w : World} {L : List HP} {K : Value → WP} {b n : Nat} {size most : Int} {sv lv v : Value} {x : Pc} {S : List Pc}
theorem Put_ok (hx : I64 x.a ∧ I64 x.n ∧ I64 x.v ∧ I64 x.f ∧ I64 x.p) (hv : ∀ y ∈ S, I64 y.v) (d : D w0 (Rg b size most S :: L) w)
    (k1 : putSt size most S x ≠ 0 → ∀ w', D w0 (Rg b size most S :: L) w' → K (.int .i64 (putSt size most S x)) w')
    (k2 : putSt size most S x = 0 → ∀ w', D w0 (Rg b size most (insP S x) :: L) w' → K (.int .i64 0) w') : Cl pg 28 #[.pointer (some ⟨b, 0, none⟩), .agg (pc x).toArray] K w := by
  refine V.region_Region_Put_ok ?_
  unfold V.region_Region_Put
  have ok := Rg.facts d
  have hl := ok.len
  have hmo := ok.mo
  have hsz := ok.sz
  have hpx : pc x = [.int .i64 x.a, .int .i64 x.n, .int .i64 x.v, .int .i64 x.f, .int .i64 x.p] := rfl
  simp only [cells_agg]
  have hput : putSt size most S x = putSt size most S x := rfl
  conv at hput => rhs; unfold putSt
  rw [hpx]
  refine d_new _ d fun bn w d => ?_
  generalize bn = b3 at d ⊢
  refine d_new _ d fun bn w d => ?_
  generalize bn = b4 at d ⊢
  have bad : (¬ (pgB x.a && pgB x.n && pgB x.f) = true ∨ x.n = 0 ∨ 4294967296 < x.f ∨ (x.p < 0 ∨ 3 < x.p)) → ∀ (A B : HP) (w : World), D w0 (A :: B :: Rg b size most S :: L) w → K (.int .i64 (-10)) w := fun h A B w d => by
    rw [if_pos h] at hput
    have := k1 (by rw [hput]; decide) w d.tail.tail
    rwa [hput] at this
  repeat (first | (simp +decide only [SEM]) | (apply ldm d; (focus ((repeat (first | exact .h _ | refine .t _ _ ?_)); done)); (focus rfl)) | refine bsl3 rfl rfl rfl d fun bn w d => ?_)
  have d := row_of (l := [x.a, x.n, x.f]) d
  refine fn10 (fun _ _ => rfl) (pages_ok (l := [x.a, x.n, x.f]) (by simp) d fun w d => ?_)
  have hall : ([x.a, x.n, x.f] : List Int).all pgB = (pgB x.a && pgB x.n && pgB x.f) := by simp [Bool.and_assoc]
  rw [hall]
  have d := d.tail
  cases hpg : (pgB x.a && pgB x.n && pgB x.f) with
  | false =>
    repeat (first | (simp +decide only [SEM]) | (apply ldm d; (focus ((repeat (first | exact .h _ | refine .t _ _ ?_)); done)); (focus rfl)) | (apply swm d; (focus ((repeat (first | exact .h _ | apply Rp.t)); done)); (focus rfl); (focus rfl); (focus exact ones rfl); intro w d; simp only [SPL] at d))
    exact bad (.inl (by rw [hpg]; decide)) _ _ w d
  | true =>
  have hpg2 := hpg
  simp only [Bool.and_eq_true] at hpg2
  unfold pgB at hpg2
  simp only [decide_eq_true_eq] at hpg2
  repeat (first | (simp +decide only [SEM]) | (apply ldm d; (focus ((repeat (first | exact .h _ | refine .t _ _ ?_)); done)); (focus rfl)))
  refine ⟨fun h1 => ?_, fun h1 => ?_⟩
  rotate_left
  · repeat (first | (apply ldm d; (focus ((repeat (first | exact .h _ | refine .t _ _ ?_)); done)); (focus rfl)) | (apply swm d; (focus ((repeat (first | exact .h _ | apply Rp.t)); done)); (focus rfl); (focus rfl); (focus exact ones rfl); intro w d; simp only [SPL] at d))
    exact bad (.inr (.inl h1)) _ _ w d
  repeat (first | (simp +decide only [SEM]) | (apply ldm d; (focus ((repeat (first | exact .h _ | refine .t _ _ ?_)); done)); (focus rfl)))
  refine ⟨fun h2 => ?_, fun h2 => ?_⟩
  rotate_left
  · repeat (first | (apply ldm d; (focus ((repeat (first | exact .h _ | refine .t _ _ ?_)); done)); (focus rfl)) | (apply swm d; (focus ((repeat (first | exact .h _ | apply Rp.t)); done)); (focus rfl); (focus rfl); (focus exact ones rfl); intro w d; simp only [SPL] at d))
    exact bad (.inr (.inr (.inl h2))) _ _ w d
  repeat (apply ldm d; (focus ((repeat (first | exact .h _ | refine .t _ _ ?_)); done)); (focus rfl))
  refine fn10 (fun _ _ => rfl) (wrong_ok ?_)
  repeat (simp +decide only [SEM])
  refine ⟨fun h3 => ?_, fun h3 => ?_⟩
  · repeat (first | (apply ldm d; (focus ((repeat (first | exact .h _ | refine .t _ _ ?_)); done)); (focus rfl)) | (apply swm d; (focus ((repeat (first | exact .h _ | apply Rp.t)); done)); (focus rfl); (focus rfl); (focus exact ones rfl); intro w d; simp only [SPL] at d))
    exact bad (.inr (.inr (.inr h3))) _ _ w d
  rw [if_neg (by rw [hpg]; simp; omega)] at hput
  obtain ⟨-, v, d⟩ := Rg.out (D.sel [2, 0, 1] d)
  obtain ⟨q, c, rfl, -⟩ := Rw.shape d.swap.1
  repeat (first | refine drw d fun w d => ?_ | refine qt d ?_ | refine qe_nil ?_ | (apply qlm; (focus ((repeat (first | exact .h _ | refine .t _ _ ?_)); done)); (focus rfl)))
  refine fn30 (fun _ _ => rfl) (Within_ok ⟨by omega, by omega⟩ ?_)
  repeat (simp +decide only [SEM])
  have d := Rg.mk ok d
  refine ⟨fun h4 => ?_, fun h4 => ?_⟩
  · rw [if_pos (by omega)] at hput
    repeat (first | (apply ldm d; (focus ((repeat (first | exact .h _ | refine .t _ _ ?_)); done)); (focus rfl)) | (apply swm d; (focus ((repeat (first | exact .h _ | apply Rp.t)); done)); (focus rfl); (focus rfl); (focus exact ones rfl); intro w d; simp only [SPL] at d))
    have := k1 (by rw [hput]; decide) w d.tail2.tail2
    rwa [hput] at this
  rw [if_neg (by omega)] at hput
  repeat (first | (simp +decide only [SEM]) | (apply ldm d; (focus ((repeat (first | exact .h _ | refine .t _ _ ?_)); done)); (focus rfl)))
  refine fn30 (fun _ _ => rfl) (V.region_Region_over_ok ?_)
  unfold V.region_Region_over
  simp only [cells_ptr, cells_int]
  refine d_new _ d fun bn w d => ?_
  generalize bn = b5 at d ⊢
  refine d_new _ d fun bn w d => ?_
  generalize bn = b6 at d ⊢
  refine d_new _ d fun bn w d => ?_
  generalize bn = b7 at d ⊢
  refine d_rf0 (fun _ _ => rfl) d fun m l r0 w hr hp hro d => ?_
  refine over_ok (L := _ :: _ :: _ :: _ :: L) (at_ := x.a) (m := x.n) hx.1 hx.2.1 (by omega) hv (D.sel [2, 3, 4, 5, 0, 1, 6, 7] d) (fun hno w d => ?_) (fun i hi ho hno w d K' hK => ?_)
  · rw [if_neg (fun ⟨y, hy, ho⟩ => by rw [hno y hy] at ho; cases ho)] at hput
    refine ⟨r0, _, D.sel [4] d, sameLp.refl r0, by rw [hr]; simp, fun w d => ?_⟩
    rw [hp]
    simp only [JumpC]
    obtain ⟨-, v, d⟩ := Rg.out (D.sel [3, 0, 1, 2] d)
    obtain ⟨q, c, rfl, -⟩ := Rw.shape d.swap.1
    repeat (first | refine drw d fun w d => ?_ | (simp +decide only [SEM]) | refine qt d ?_ | refine qe_nil ?_ | refine qe_len ?_ | (apply qlm; (focus ((repeat (first | exact .h _ | refine .t _ _ ?_)); done)); (focus rfl)))
    refine ⟨fun h5 => ?_, fun h5 => ?_⟩
    · rw [if_pos (by omega)] at hput
      repeat (apply swm d; (focus ((repeat (first | exact .h _ | apply Rp.t)); done)); (focus rfl); (focus rfl); (focus exact ones rfl); intro w d; simp only [SPL] at d)
      refine d_lv1 (D.sel [5] d) fun w d => ?_
      repeat (apply ldm d; (focus ((repeat (first | exact .h _ | refine .t _ _ ?_)); done)); (focus rfl))
      have := k1 (by rw [hput]; decide) w (Rg.mk ok (D.sel [2, 3, 4, 5, 6, 0, 1] d).tail.tail.tail.tail.tail)
      rwa [hput] at this
    · rw [if_neg (by omega)] at hput
      repeat (first | refine drw d fun w d => ?_ | refine qt d ?_ | refine qe_nil ?_ | (apply qlm; (focus ((repeat (first | exact .h _ | refine .t _ _ ?_)); done)); (focus rfl)))
      refine fn30 (fun _ _ => rfl) (bins_ok ok (D.sel [1] d) fun r w d => ?_)
      repeat (first | refine drw d fun w d => ?_ | refine bsl1 (by first | rfl | (simp only [cells_agg, cells_int, cells_bool, cells_ptr, cells_sl, cells_map, cells_fn, List.drop_succ_cons, List.drop_zero, List.take_succ_cons, List.take_zero, Nat.zero_add, Nat.reduceAdd, Int.toNat_natCast, Int.toNat_zero]; rfl)) rfl d (by decide) (by decide) fun bn w d => ?_ | refine qt d ?_ | refine qe_nil ?_ | (apply qlm; (focus ((repeat (first | exact .h _ | refine .t _ _ ?_)); done)); (focus rfl)) | (apply qam; (focus ((repeat (first | exact .h _ | refine .t _ _ ?_)); done)); (focus rfl)) | refine qe_ext rfl ?_ | refine ch (D.tail d) ?_)
      refine fn30 (fun _ _ => rfl) (insert_ok (x := x) (pos_le S x.a) (by omega) (D.sel [1, 0] d) fun sv' w d => ?_)
      obtain ⟨q2, c2, rfl, -⟩ := Rw.shape d.1
      repeat (first | (simp +decide only [SEM]) | (apply swm d; (focus ((repeat (first | exact .h _ | apply Rp.t)); done)); (focus rfl); (focus rfl); (focus exact ones rfl); intro w d; simp only [SPL] at d) | (apply stm d; (focus ((repeat (first | exact .h _ | apply Rp.t)); done)); (focus rfl); (focus simp); (focus exact ones rfl); intro w d; simp only [SPL] at d))
      refine d_lv1 (D.sel [6] d) fun w d => ?_
      repeat (apply ldm d; (focus ((repeat (first | exact .h _ | refine .t _ _ ?_)); done)); (focus rfl))
      exact k2 hput w (Rg.mk (ins_rok ok (put0.1 hput)) (D.sel [1, 3, 4, 5, 6, 7, 2, 0] d).tail.tail.tail.tail.tail.tail)
  · rw [if_pos ⟨_, List.getElem_mem hi, ho⟩] at hput
    refine y_ok (args := [.int .i64 i, .agg (pc S[i]).toArray]) hro (D.sel [4] d) ?_
    simp only [UN, UNe]
    refine d_beg (D.sel [4] d) hr fun w d => ?_
    repeat (apply swm d; (focus ((repeat (first | exact .h _ | apply Rp.t)); done)); (focus rfl); (focus rfl); (focus exact ones rfl); intro w d; simp only [SPL] at d)
    refine d_endj d fun w d => ?_
    refine hK _ ⟨_, _, d, ⟨rfl, rfl, rfl, rfl, rfl, rfl⟩, by simp, fun w d => ?_⟩
    simp only [JumpC]
    refine d_lv1 (D.sel [4] d) fun w d => ?_
    repeat (apply ldm d; (focus ((repeat (first | exact .h _ | refine .t _ _ ?_)); done)); (focus rfl))
    have := k1 (by rw [hput]; decide) w (D.sel [0, 1, 2, 4, 5, 3] d).tail.tail.tail.tail.tail
    rwa [hput] at this
theorem check_ok {at_ m : Int} (d : D w0 (Rg b size most S :: L) w) (k : ∀ w', D w0 (Rg b size most S :: L) w' → K (.int .i64 (chkSt size at_ m)) w') : Cl pg 58 #[.pointer (some ⟨b, 0, none⟩), .int .i64 at_, .int .i64 m] K w := by
  refine V.region_Region_check_ok ?_
  unfold V.region_Region_check
  have ok := Rg.facts d
  have hsz := ok.sz
  unfold chkSt at k
  repeat (refine bsl2 rfl rfl d fun bn w d => ?_)
  have d := row_of (l := [at_, m]) d
  refine fn10 (fun _ _ => rfl) (pages_ok (l := [at_, m]) (by simp) d fun w d => ?_)
  have hall : ([at_, m] : List Int).all pgB = (pgB at_ && pgB m) := by simp
  rw [hall]
  have d := d.tail
  cases hpg : (pgB at_ && pgB m) with
  | false =>
    rw [if_pos (.inl (by rw [hpg]; decide))] at k
    repeat (simp +decide only [SEM])
    exact k w d
  | true =>
    repeat (simp +decide only [SEM])
    refine ⟨fun h1 => ?_, fun h1 => ?_⟩
    · rw [if_pos (.inr h1)] at k
      exact k w d
    · rw [if_neg (by rw [hpg]; simp; exact h1)] at k
      obtain ⟨-, v, d⟩ := Rg.out d
      repeat (apply ldm d; (focus ((repeat (first | exact .h _ | refine .t _ _ ?_)); done)); (focus rfl))
      refine fn30 (fun _ _ => rfl) (Within_ok ⟨by omega, by omega⟩ ?_)
      repeat (simp +decide only [SEM])
      refine ⟨fun h2 => ?_, fun h2 => ?_⟩
      · rw [if_pos h2] at k
        exact k w (Rg.mk ok d)
      · rw [if_neg (fun h => h h2)] at k
        exact k w (Rg.mk ok d)
end
end Go.Proofs.Ytgkbbihaaichbaa.Reg

set_option maxRecDepth 100000
set_option maxHeartbeats 8000000
namespace Go.Proofs.Ytgkbbihaaichbaa.Reg
open Go Go.Jac
theorem outP_len (at_ m : Int) (x : Pc) : (outP at_ m x).length ≤ 2 := by
  unfold outP
  split
  · split <;> split <;> simp
  · simp
theorem inP_len (at_ m : Int) (x : Pc) : (inP at_ m x).length ≤ 1 := by
  unfold inP
  split <;> simp
theorem outs_len (at_ m : Int) : ∀ S : List Pc, (S.flatMap (outP at_ m)).length ≤ 2 * S.length
  | [] => by simp
  | x :: r => by
    have := outs_len at_ m r
    have := outP_len at_ m x
    rw [List.flatMap_cons, List.length_append, List.length_cons]; omega
theorem ins_len (at_ m : Int) : ∀ S : List Pc, (S.flatMap (inP at_ m)).length ≤ S.length
  | [] => by simp
  | x :: r => by
    have := ins_len at_ m r
    have := inP_len at_ m x
    rw [List.flatMap_cons, List.length_append, List.length_cons]; omega
section
variable {w0 w : World} {L : List HP} {K : Value → WP} {b n : Nat} {size most : Int} {sv lv v : Value} {x : Pc} {S : List Pc}
theorem split_ok {at_ m : Int} (h0 : 0 ≤ at_ ∧ 0 < m ∧ at_ + m ≤ size) (d : D w0 (Rg b size most S :: L) w)
    (k : ∀ ov iv w', D w0 (Rw 72 5 ov (S.flatMap (outP at_ m)).length ((S.flatMap (outP at_ m)).flatMap pc) :: Rw 72 5 iv (S.flatMap (inP at_ m)).length ((S.flatMap (inP at_ m)).flatMap pc) :: Rg b size most S :: L) w' → K (.tuple #[ov, iv]) w') :
    Cl pg 59 #[.pointer (some ⟨b, 0, none⟩), .int .i64 at_, .int .i64 m] K w := by
  refine V.region_Region_split_ok ?_
  unfold V.region_Region_split
  obtain ⟨ok, v, d⟩ := Rg.out d
  obtain ⟨q, c, rfl, -⟩ := Rw.shape d.swap.1
  have hl := ok.len
  have hmo := ok.mo
  have hsz := ok.sz
  repeat (first | (simp +decide only [SEM]) | (apply ldm d; (focus ((repeat (first | exact .h _ | refine .t _ _ ?_)); done)); (focus rfl)))
  refine ⟨fun vs w' => ∃ (i : Nat) (iv ov : Value), vs = [iv, ov, .int .i64 i] ∧ i ≤ S.length ∧ D w0 (Rw 72 5 ov ((S.take i).flatMap (outP at_ m)).length (((S.take i).flatMap (outP at_ m)).flatMap pc) :: Rw 72 5 iv ((S.take i).flatMap (inP at_ m)).length (((S.take i).flatMap (inP at_ m)).flatMap pc) :: cel b 92 [.int .i64 size, .int .i64 most, .slice q S.length c] :: Rw 72 5 (.slice q S.length c) S.length (S.flatMap pc) :: L) w', fun vs _ => match vs with | [_, _, .int _ i] => S.length - i.toNat | _ => 0, ⟨0, _, _, rfl, by omega, ?_⟩, ?_⟩
  · have d1 : D w0 (Rw 72 5 (.slice none 0 0) 0 [] :: _) w := ⟨Rw.nil _ _ d.1, d.2⟩
    exact ⟨Rw.nil _ _ d1.1, d1.2⟩
  clear d
  rintro _ w ⟨i, iv, ov, rfl, hi, d⟩ _
  simp only [UN]
  repeat (simp +decide only [SEM])
  refine ⟨fun hlt => ?_, fun hge => ?_⟩
  · have hlt' : i < S.length := by omega
    have hp := ok.all _ (List.getElem_mem hlt')
    have g1 := hp.n0
    have g2 := hp.en
    have g3 := hp.a0
    have g4 := hp.f0
    have g5 := hp.fa
    have hol := outs_len at_ m (S.take i)
    have hil := ins_len at_ m (S.take i)
    rw [List.length_take] at hol hil
    have hts := List.take_succ_eq_append_getElem hlt'
    refine rw_elN d (.t _ _ (.t _ _ (.t _ _ (.h _)))) pc_len hlt' ?_
    have hfo : (S.take (i + 1)).flatMap (outP at_ m) = (S.take i).flatMap (outP at_ m) ++ outP at_ m S[i] := by rw [hts, List.flatMap_append, List.flatMap_singleton]
    have hfi : (S.take (i + 1)).flatMap (inP at_ m) = (S.take i).flatMap (inP at_ m) ++ inP at_ m S[i] := by rw [hts, List.flatMap_append, List.flatMap_singleton]
    generalize (S.take i).flatMap (outP at_ m) = O at *
    generalize (S.take i).flatMap (inP at_ m) = I at *
    have nxt : ∀ (O' I' : List Pc) (ov' iv' : Value) (A : HP) (w : World), O ++ outP at_ m S[i] = O' → I ++ inP at_ m S[i] = I' → D w0 (Rw 72 5 ov' O'.length (O'.flatMap pc) :: Rw 72 5 iv' I'.length (I'.flatMap pc) :: A :: cel b 92 [.int .i64 size, .int .i64 most, .slice q S.length c] :: Rw 72 5 (.slice q S.length c) S.length (S.flatMap pc) :: L) w →
        (∃ (i' : Nat) (iv ov : Value), [iv', ov', .int .i64 (IntKind.i64.wrap ((i : Int) + 1))] = [iv, ov, Value.int .i64 i'] ∧ i' ≤ S.length ∧ D w0 (Rw 72 5 ov ((S.take i').flatMap (outP at_ m)).length (((S.take i').flatMap (outP at_ m)).flatMap pc) :: Rw 72 5 iv ((S.take i').flatMap (inP at_ m)).length (((S.take i').flatMap (inP at_ m)).flatMap pc) :: cel b 92 [.int .i64 size, .int .i64 most, .slice q S.length c] :: Rw 72 5 (.slice q S.length c) S.length (S.flatMap pc) :: L) w) ∧ S.length - (IntKind.i64.wrap ((i : Int) + 1)).toNat < S.length - i := by
      intro O' I' ov' iv' A w e1 e2 d
      rw [w64 (by omega) (by omega)]
      refine ⟨⟨i + 1, iv', ov', by simp, by omega, ?_⟩, by omega⟩
      rw [hfo, hfi, e1, e2]
      exact (D.sel [2, 0, 1] d).tail
    generalize S[i] = x at *
    have app : ∀ {O : List Pc} {y : Pc} {v : Value} {M : List HP} {w : World} {K : Value → WP} {bx : Nat} {c1 : Nat}, O.length ≤ 262144 → D w0 (Rw 72 5 v O.length (O.flatMap pc) :: cel bx 72 (pc y) :: M) w → (∀ v' w', D w0 (Rw 72 5 v' (O ++ [y]).length ((O ++ [y]).flatMap pc) :: M) w' → K v' w') → AppC 72 5 40 #[.int .i64 0, .int .i64 0, .int .i64 0, .int .i64 0, .int .i64 0] v (.slice (some ⟨bx, 0, none⟩) 1 c1) K w := by
      intro O y v M w K bx c1 hO d k
      refine d_app (m := 1) d (src_of (gc1 d) rfl (ones rfl) c1) rfl (by omega) (by omega) (by omega) (ones rfl) fun v' w d => k v' w ?_
      rw [List.length_append, List.flatMap_append, List.flatMap_singleton]
      exact d.tail2
    have hpx : pc x = [.int .i64 x.a, .int .i64 x.n, .int .i64 x.v, .int .i64 x.f, .int .i64 x.p] := rfl
    rw [hpx]
    refine d_new _ d fun bn w d => ?_
    generalize bn = bx at d ⊢
    repeat (first | (simp +decide only [SEM]) | (apply ldm d; (focus ((repeat (first | exact .h _ | refine .t _ _ ?_)); done)); (focus rfl)) | (apply swm d; (focus ((repeat (first | exact .h _ | apply Rp.t)); done)); (focus rfl); (focus rfl); (focus exact ones rfl); intro w d; simp only [SPL] at d))
    refine fn40 (fun _ _ => rfl) (Overlap_ok ⟨by omega, by omega⟩ ⟨by omega, by omega⟩ ⟨by omega, by omega⟩ ⟨by omega, by omega⟩ (by omega) (by omega) ?_)
    repeat (simp +decide only [SEM])
    cases hov : ovB x.a x.n at_ m with
    | false =>
      have eo : outP at_ m x = [x] := by unfold outP; rw [hov]; rfl
      have ei : inP at_ m x = [] := by unfold inP; rw [hov]; rfl
      repeat (first | (simp +decide only [SEM]) | (apply lam d; (focus ((repeat (first | exact .h _ | refine .t _ _ ?_)); done)); (focus rfl)) | refine bsl1 (by first | rfl | (simp only [cells_agg, cells_int, cells_bool, cells_ptr, cells_sl, cells_map, cells_fn, List.drop_succ_cons, List.drop_zero, List.take_succ_cons, List.take_zero, Nat.zero_add, Nat.reduceAdd, Int.toNat_natCast, Int.toNat_zero]; rfl)) rfl d (by decide) (by decide) fun bn w d => ?_)
      refine app (y := x) (by omega) (D.sel [2, 0] d) fun v' w d => ?_
      repeat (simp +decide only [SEM])
      exact nxt _ _ _ _ _ _ (by rw [eo]) (by rw [ei, List.append_nil]) (D.sel [0, 2, 1] d)
    | true =>
      have hob : x.a < at_ + m ∧ at_ < x.a + x.n := by
        unfold ovB at hov
        have := of_decide_eq_true hov
        omega
      repeat (simp +decide only [SEM])
      intro vK hvK
      have ei : inP at_ m x = [part x at_ (at_ + m)] := by unfold inP; rw [hov]; rfl
      have eo : outP at_ m x = (if x.a < at_ then [part x x.a at_] else []) ++ (if at_ + m < x.a + x.n then [part x (at_ + m) (x.a + x.n)] else []) := by unfold outP; rw [hov]; rfl
      have hb5 : 0 ≤ x.a ∧ x.a ≤ 8589934592 ∧ 0 ≤ x.n ∧ x.n ≤ 8589934592 ∧ 0 ≤ x.f ∧ x.f ≤ 34359738368 := by omega
      have fin : ∀ (O1 : List Pc) (ov1 : Value) (w : World), O1.length ≤ 262143 → O ++ (if x.a < at_ then [part x x.a at_] else []) = O1 → D w0 (Rw 72 5 ov1 O1.length (O1.flatMap pc) :: Rw 72 5 iv I.length (I.flatMap pc) :: cel bx 72 [.int .i64 x.a, .int .i64 x.n, .int .i64 x.v, .int .i64 x.f, .int .i64 x.p] :: cel b 92 [.int .i64 size, .int .i64 most, .slice q S.length c] :: Rw 72 5 (.slice q S.length c) S.length (S.flatMap pc) :: L) w → vK [ov1] w := by
        intro O1 ov1 w hO1 e1 d
        refine hvK _ _ ?_
        intro _
        simp only [UN]
        repeat (first | (simp +decide only [SEM]) | (apply lam d; (focus ((repeat (first | exact .h _ | refine .t _ _ ?_)); done)); (focus rfl)))
        have e2 : IntKind.i64.wrap (at_ + m) = at_ + m := w64 (by omega) (by omega)
        rw [e2]
        refine fn30 (fun _ _ => rfl) (part_ok (x := x) hb5 (by omega) (by omega) d fun w d => ?_)
        repeat (refine bsl1 (by first | rfl | (simp only [cells_agg, cells_int, cells_bool, cells_ptr, cells_sl, cells_map, cells_fn, List.drop_succ_cons, List.drop_zero, List.take_succ_cons, List.take_zero, Nat.zero_add, Nat.reduceAdd, Int.toNat_natCast, Int.toNat_zero]; rfl)) rfl d (by decide) (by decide) fun bn w d => ?_)
        refine app (y := part x at_ (at_ + m)) (by omega) (D.sel [2, 0] d) fun v' w d => ?_
        repeat (apply lam d; (focus ((repeat (first | exact .h _ | refine .t _ _ ?_)); done)); (focus rfl))
        refine fn10 (fun _ _ => rfl) (end_ok (x := x) ⟨by omega, by omega, by omega, by omega⟩ d fun w d => ?_)
        repeat (simp +decide only [SEM])
        rw [e2]
        refine ⟨fun h1 => ?_, fun h1 => ?_⟩
        · have d := D.sel [1, 0, 2, 3, 4] d
          repeat (first | refine drw d fun w d => ?_ | refine qt d ?_ | (apply qam; (focus ((repeat (first | exact .h _ | refine .t _ _ ?_)); done)); (focus rfl)) | refine qe_op (fun _ _ => BinI_add) ?_)
          rw [e2]
          refine fn10 (fun _ _ => rfl) (end_ok (x := x) ⟨by omega, by omega, by omega, by omega⟩ d fun w d => ?_)
          repeat (refine ch d ?_)
          refine fn30 (fun _ _ => rfl) (part_ok (x := x) hb5 (by omega) (by omega) d fun w d => ?_)
          repeat (refine bsl1 (by first | rfl | (simp only [cells_agg, cells_int, cells_bool, cells_ptr, cells_sl, cells_map, cells_fn, List.drop_succ_cons, List.drop_zero, List.take_succ_cons, List.take_zero, Nat.zero_add, Nat.reduceAdd, Int.toNat_natCast, Int.toNat_zero]; rfl)) rfl d (by decide) (by decide) fun bn w d => ?_)
          refine app (y := part x (at_ + m) (x.a + x.n)) (by omega) (D.sel [1, 0] d) fun v2 w d => ?_
          repeat (simp +decide only [SEM])
          refine nxt _ _ _ _ _ _ ?_ (by rw [ei]) d
          rw [eo, if_pos h1, ← e1, List.append_assoc]
        · refine nxt O1 _ _ _ _ _ ?_ (by rw [ei]) (D.sel [1, 0] d)
          rw [eo, if_neg h1, List.append_nil, e1]
      repeat (first | (simp +decide only [SEM]) | (apply ldm d; (focus ((repeat (first | exact .h _ | refine .t _ _ ?_)); done)); (focus rfl)))
      refine ⟨fun h1 => ?_, fun h1 => ?_⟩
      · repeat (first | (simp +decide only [SEM]) | (apply ldm d; (focus ((repeat (first | exact .h _ | refine .t _ _ ?_)); done)); (focus rfl)) | (apply lam d; (focus ((repeat (first | exact .h _ | refine .t _ _ ?_)); done)); (focus rfl)))
        refine fn30 (fun _ _ => rfl) (part_ok (x := x) hb5 (by omega) (by omega) d fun w d => ?_)
        repeat (refine bsl1 (by first | rfl | (simp only [cells_agg, cells_int, cells_bool, cells_ptr, cells_sl, cells_map, cells_fn, List.drop_succ_cons, List.drop_zero, List.take_succ_cons, List.take_zero, Nat.zero_add, Nat.reduceAdd, Int.toNat_natCast, Int.toNat_zero]; rfl)) rfl d (by decide) (by decide) fun bn w d => ?_)
        refine app (y := part x x.a at_) (by omega) (D.sel [2, 0] d) fun v' w d => ?_
        exact fin _ _ _ (by rw [List.length_append, List.length_singleton]; omega) (by rw [if_pos h1]) (D.sel [0, 2, 1] d)
      · exact fin O _ _ (by omega) (by rw [if_neg h1, List.append_nil]) (D.sel [1, 2, 0] d)
  · have hi' : i = S.length := by omega
    subst hi'
    rw [List.take_length] at d
    exact k _ _ _ (D.sel [1, 2, 0] (Rg.mk ok (D.sel [2, 3, 0, 1] d)))
end
end Go.Proofs.Ytgkbbihaaichbaa.Reg

set_option maxRecDepth 100000
set_option maxHeartbeats 8000000
namespace Go.Proofs.Ytgkbbihaaichbaa.Reg
open Go Go.Jac
def vals (x : Pc) : Int × Int × Int := (x.v, x.p, x.f - x.a)
theorem outP_in {at_ m : Int} {x : Pc} (hx : 0 ≤ x.a ∧ 0 < x.n) (hm : 0 ≤ at_ ∧ 0 < m) : ∀ y ∈ outP at_ m x, x.a ≤ y.a ∧ 0 < y.n ∧ y.a + y.n ≤ x.a + x.n ∧ vals y = vals x ∧ (y.a + y.n ≤ at_ ∨ at_ + m ≤ y.a) := by
  intro y hy
  unfold outP at hy
  split at hy
  · rename_i h
    unfold ovB at h
    have h := of_decide_eq_true h
    rcases List.mem_append.1 hy with hy | hy
    · split at hy
      · rw [List.mem_singleton.1 hy]
        simp only [part, vals, Prod.mk.injEq, true_and]
        omega
      · cases hy
    · split at hy
      · rw [List.mem_singleton.1 hy]
        simp only [part, vals, Prod.mk.injEq, true_and]
        omega
      · cases hy
  · rename_i h
    rw [List.mem_singleton.1 hy]
    unfold ovB at h
    simp only [decide_eq_true_eq] at h
    refine ⟨Int.le_refl _, hx.2, Int.le_refl _, rfl, by omega⟩
theorem inP_in {at_ m : Int} {x : Pc} (hx : 0 ≤ x.a ∧ 0 < x.n) (hm : 0 ≤ at_ ∧ 0 < m) : ∀ y ∈ inP at_ m x, x.a ≤ y.a ∧ 0 < y.n ∧ y.a + y.n ≤ x.a + x.n ∧ vals y = vals x ∧ at_ ≤ y.a ∧ y.a + y.n ≤ at_ + m := by
  intro y hy
  unfold inP at hy
  split at hy
  · rename_i h
    unfold ovB at h
    have h := of_decide_eq_true h
    rw [List.mem_singleton.1 hy]
    simp only [part, vals, Prod.mk.injEq, true_and]
    omega
  · cases hy
theorem outP_up {at_ m : Int} {x : Pc} (hm : 0 ≤ at_ ∧ 0 < m) (hx : 0 ≤ x.a ∧ 0 < x.n) : (outP at_ m x).Pairwise fun y z => y.a + y.n ≤ z.a := by
  unfold outP
  split
  · rename_i h
    unfold ovB at h
    have h := of_decide_eq_true h
    split <;> split
    · simp only [List.singleton_append, List.pairwise_cons, List.mem_singleton, forall_eq, List.not_mem_nil, false_implies, implies_true, List.Pairwise.nil, and_true]
      simp only [part]; omega
    · simp
    · simp
    · simp
  · exact List.pairwise_singleton _ _
theorem inP_up {at_ m : Int} {x : Pc} : (inP at_ m x).Pairwise fun y z => y.a + y.n ≤ z.a := by
  unfold inP
  split
  · exact List.pairwise_singleton _ _
  · exact List.Pairwise.nil
theorem flat_up {size most : Int} {S : List Pc} (h : Rok size most S) {g : Pc → List Pc} (h1 : ∀ x ∈ S, (g x).Pairwise fun y z => y.a + y.n ≤ z.a) (h2 : ∀ x ∈ S, ∀ y ∈ g x, x.a ≤ y.a ∧ y.a + y.n ≤ x.a + x.n) : (S.flatMap g).Pairwise fun y z => y.a + y.n ≤ z.a := by
  rw [List.pairwise_flatMap]
  refine ⟨h1, ?_⟩
  refine List.Pairwise.imp_of_mem ?_ h.up
  intro x x' hx hx' hxx y hy z hz
  have := h2 x hx y hy
  have := h2 x' hx' z hz
  omega
theorem pok_sub {size : Int} {x y : Pc} (hx : Pok size x) (h1 : x.a ≤ y.a) (h2 : 0 < y.n) (h3 : y.a + y.n ≤ x.a + x.n) (h4 : vals y = vals x) (ha : y.a % 64 = 0) (hn : y.n % 64 = 0) : Pok size y := by
  have e1 : y.p = x.p := congrArg (fun c => c.2.1) h4
  have e2 : y.f - y.a = x.f - x.a := congrArg (fun c => c.2.2) h4
  have := hx.a0; have := hx.en; have := hx.f0; have := hx.fm; have := hx.fa; have := hx.am; have := hx.pr
  exact ⟨by omega, h2, ha, hn, by omega, by omega, by omega, by omega, by omega⟩
theorem part_mod {x : Pc} {fr to : Int} (h1 : x.a % 64 = 0) (h2 : x.n % 64 = 0) (h3 : fr % 64 = 0) (h4 : to % 64 = 0) : (part x fr to).a % 64 = 0 ∧ (part x fr to).n % 64 = 0 := by
  simp only [part]
  rcases Int.le_total fr x.a with h | h <;> rcases Int.le_total to (x.a + x.n) with h' | h'
  · rw [Int.max_eq_right h, Int.min_eq_left h']; omega
  · rw [Int.max_eq_right h, Int.min_eq_right h']; omega
  · rw [Int.max_eq_left h, Int.min_eq_left h']; omega
  · rw [Int.max_eq_left h, Int.min_eq_right h']; omega
theorem out_pok {size at_ m : Int} {x : Pc} (hx : Pok size x) (hm : at_ % 64 = 0 ∧ m % 64 = 0 ∧ 0 ≤ at_ ∧ 0 < m) : ∀ y ∈ outP at_ m x, Pok size y := by
  intro y hy
  obtain ⟨h1, h2, h3, h4, _⟩ := outP_in ⟨hx.a0, hx.n0⟩ ⟨hm.2.2.1, hm.2.2.2⟩ y hy
  have := hx.am; have := hx.nm
  have key : y.a % 64 = 0 ∧ y.n % 64 = 0 := by
    unfold outP at hy
    split at hy
    · rcases List.mem_append.1 hy with hy | hy
      · split at hy
        · rw [List.mem_singleton.1 hy]; exact part_mod hx.am hx.nm hx.am hm.1
        · cases hy
      · split at hy
        · rw [List.mem_singleton.1 hy]; exact part_mod hx.am hx.nm (by omega) (by omega)
        · cases hy
    · rw [List.mem_singleton.1 hy]; exact ⟨hx.am, hx.nm⟩
  exact pok_sub hx h1 h2 h3 h4 key.1 key.2
theorem in_pok {size at_ m : Int} {x : Pc} (hx : Pok size x) (hm : at_ % 64 = 0 ∧ m % 64 = 0 ∧ 0 ≤ at_ ∧ 0 < m) : ∀ y ∈ inP at_ m x, Pok size y := by
  intro y hy
  obtain ⟨h1, h2, h3, h4, _⟩ := inP_in ⟨hx.a0, hx.n0⟩ ⟨hm.2.2.1, hm.2.2.2⟩ y hy
  have key : y.a % 64 = 0 ∧ y.n % 64 = 0 := by
    unfold inP at hy
    split at hy
    · rw [List.mem_singleton.1 hy]; exact part_mod hx.am hx.nm hm.1 (by omega)
    · cases hy
  exact pok_sub hx h1 h2 h3 h4 key.1 key.2
theorem cut_rok {size most at_ m : Int} {S : List Pc} (h : Rok size most S) (hm : at_ % 64 = 0 ∧ m % 64 = 0 ∧ 0 ≤ at_ ∧ 0 < m) (hl : (S.flatMap (outP at_ m)).length ≤ most) : Rok size most (S.flatMap (outP at_ m)) := by
  refine ⟨h.sz, h.mo, fun y hy => ?_, ?_, hl⟩
  · obtain ⟨x, hx, hy⟩ := List.mem_flatMap.1 hy
    exact out_pok (h.all x hx) hm y hy
  · refine flat_up h (fun x hx => outP_up ⟨hm.2.2.1, hm.2.2.2⟩ ⟨(h.all x hx).a0, (h.all x hx).n0⟩) fun x hx y hy => ?_
    have := outP_in ⟨(h.all x hx).a0, (h.all x hx).n0⟩ ⟨hm.2.2.1, hm.2.2.2⟩ y hy
    exact ⟨this.1, this.2.2.1⟩
/-- The least place. -/
def placeG (n : Int) : List Pc → Int → Option Int × Int
  | [], a => (none, a)
  | x :: r, a => if n ≤ x.a - a then (some a, a) else placeG n r (x.a + x.n)
section
variable {w0 w : World} {L : List HP} {K : Value → WP} {b n : Nat} {size most : Int} {sv lv v : Value} {x : Pc} {S : List Pc}
theorem List_ok (d : D w0 (Rg b size most S :: L) w) (k : ∀ lv w', D w0 (Rw 72 5 lv S.length (S.flatMap pc) :: Rg b size most S :: L) w' → K lv w') : Cl pg 29 #[.pointer (some ⟨b, 0, none⟩)] K w := by
  refine V.region_Region_List_ok ?_
  unfold V.region_Region_List
  obtain ⟨ok, v, d⟩ := Rg.out d
  have hl := ok.len
  have hmo := ok.mo
  repeat (first | (simp +decide only [SEM]) | (apply ldm d; (focus ((repeat (first | exact .h _ | refine .t _ _ ?_)); done)); (focus rfl)))
  refine fn10 (fun _ _ => rfl) (V.slices_Clone_Piece_Piece_ok ?_)
  refine gclone_ok (K := K) (P := pg) (n := S.length) Try.underlying33 rfl pcs_one (by omega) (by omega) d.swap fun sv' w d => ?_
  exact k _ _ (D.swap (Rg.mk ok (D.sel [2, 1, 0] d)))
theorem Place_ok {m : Int} (hI : I64 m) (d : D w0 (Rg b size most S :: L) w)
    (k1 : ¬ (0 < m ∧ m % 64 = 0) → ∀ w', D w0 (Rg b size most S :: L) w' → K (.tuple #[.int .i64 0, .int .i64 (-10)]) w')
    (k2 : 0 < m → m % 64 = 0 → ∀ a, (placeG m S 0).1 = some a → ∀ w', D w0 (Rg b size most S :: L) w' → K (.tuple #[.int .i64 a, .int .i64 0]) w')
    (k3 : 0 < m → m % 64 = 0 → (placeG m S 0).1 = none → size - (placeG m S 0).2 < m → ∀ w', D w0 (Rg b size most S :: L) w' → K (.tuple #[.int .i64 0, .int .i64 (-4)]) w')
    (k4 : 0 < m → m % 64 = 0 → (placeG m S 0).1 = none → m ≤ size - (placeG m S 0).2 → ∀ w', D w0 (Rg b size most S :: L) w' → K (.tuple #[.int .i64 (placeG m S 0).2, .int .i64 0]) w') :
    Cl pg 27 #[.pointer (some ⟨b, 0, none⟩), .int .i64 m] K w := by
  refine V.region_Region_Place_ok ?_
  unfold V.region_Region_Place
  unfold I64 at hI
  have ok := Rg.facts d
  have hl := ok.len
  have hmo := ok.mo
  have hsz := ok.sz
  repeat (simp +decide only [SEM])
  refine ⟨fun h1 => ?_, fun h1 => k1 (by omega) w d⟩
  repeat (refine bsl1 (by first | rfl | (simp only [cells_agg, cells_int, cells_bool, cells_ptr, cells_sl, cells_map, cells_fn, List.drop_succ_cons, List.drop_zero, List.take_succ_cons, List.take_zero, Nat.zero_add, Nat.reduceAdd, Int.toNat_natCast, Int.toNat_zero]; rfl)) rfl d (by decide) (by decide) fun bn w d => ?_)
  have d := row_of (l := [m]) d
  refine fn10 (fun _ _ => rfl) (pages_ok (l := [m]) (by simp) d fun w d => ?_)
  have d := d.tail
  by_cases h2 : m % 64 = 0
  · have e : ([m] : List Int).all pgB = true := by simp [pgB]; omega
    rw [e]
    obtain ⟨-, v, d⟩ := Rg.out d
    obtain ⟨q, c, rfl, -⟩ := Rw.shape d.swap.1
    repeat (first | (simp +decide only [SEM]) | (apply ldm d; (focus ((repeat (first | exact .h _ | refine .t _ _ ?_)); done)); (focus rfl)))
    refine ⟨fun vs w' => ∃ (i : Nat) (a : Int) (u : Value), vs = [u, .int .i64 a, .int .i64 i] ∧ i ≤ S.length ∧ (0 ≤ a ∧ a ≤ size) ∧ placeG m S 0 = placeG m (S.drop i) a ∧ D w0 (cel b 92 [.int .i64 size, .int .i64 most, .slice q S.length c] :: Rw 72 5 (.slice q S.length c) S.length (S.flatMap pc) :: L) w', fun vs _ => match vs with | [_, _, .int _ i] => S.length - i.toNat | _ => 0, ⟨0, 0, _, rfl, by omega, by omega, by simp, d⟩, ?_⟩
    clear d
    rintro _ w ⟨i, a, u, rfl, hi, ha, hpl, d⟩ _
    simp only [UN]
    repeat (simp +decide only [SEM])
    refine ⟨fun hlt => ?_, fun hge => ?_⟩
    · have hlt' : i < S.length := by omega
      have hp := ok.all _ (List.getElem_mem hlt')
      have g1 := hp.n0
      have g2 := hp.en
      have g3 := hp.a0
      rw [List.drop_eq_getElem_cons hlt', placeG] at hpl
      refine rw_elN d (.t _ _ (.h _)) pc_len hlt' ?_
      generalize S[i] = x at *
      have hpx : pc x = [.int .i64 x.a, .int .i64 x.n, .int .i64 x.v, .int .i64 x.f, .int .i64 x.p] := rfl
      rw [hpx]
      refine d_new _ d fun bn w d => ?_
      generalize bn = bx at d ⊢
      repeat (first | (simp +decide only [SEM]) | (apply ldm d; (focus ((repeat (first | exact .h _ | refine .t _ _ ?_)); done)); (focus rfl)) | (apply swm d; (focus ((repeat (first | exact .h _ | apply Rp.t)); done)); (focus rfl); (focus rfl); (focus exact ones rfl); intro w d; simp only [SPL] at d))
      rw [w64 (n := x.a - a) (by omega) (by omega)]
      refine ⟨fun h3 => ?_, fun h3 => ?_⟩
      · rw [if_pos h3] at hpl
        exact k2 (by omega) h2 a (by rw [hpl]) w (Rg.mk ok d.tail)
      · rw [if_neg h3] at hpl
        repeat (apply lam d; (focus ((repeat (first | exact .h _ | refine .t _ _ ?_)); done)); (focus rfl))
        refine fn10 (fun _ _ => rfl) (end_ok (x := x) ⟨by omega, by omega, by omega, by omega⟩ d fun w d => ?_)
        repeat (simp +decide only [SEM])
        rw [w64 (by omega) (by omega)]
        exact ⟨⟨i + 1, x.a + x.n, u, by simp, by omega, by omega, hpl, d.tail⟩, by omega⟩
    · have hi' : i = S.length := by omega
      subst hi'
      rw [List.drop_length, placeG] at hpl
      repeat (first | (simp +decide only [SEM]) | (apply ldm d; (focus ((repeat (first | exact .h _ | refine .t _ _ ?_)); done)); (focus rfl)))
      rw [w64 (by omega) (by omega)]
      refine ⟨fun h3 => ?_, fun h3 => ?_⟩
      · exact k3 (by omega) h2 (by rw [hpl]) (by rw [hpl]; exact h3) w (Rg.mk ok d)
      · have := k4 (by omega) h2 (by rw [hpl]) (by rw [hpl]; show m ≤ size - a; omega) w (Rg.mk ok d)
        rwa [hpl] at this
  · have e : ([m] : List Int).all pgB = false := by simp [pgB]; omega
    rw [e]
    repeat (simp +decide only [SEM])
    exact k1 (by omega) w d
end
end Go.Proofs.Ytgkbbihaaichbaa.Reg

set_option maxRecDepth 100000
set_option maxHeartbeats 4000000
namespace Go.Proofs.Ytgkbbihaaichbaa.Reg
open Go Go.Jac
def cov (x : Pc) (t : Int) : Prop := x.a ≤ t ∧ t < x.a + x.n
section
variable {size most : Int} {S : List Pc} {x y : Pc} {t m : Int}
theorem ov1 (hx : 0 ≤ x.a ∧ 0 < x.n) (ht : 0 ≤ t) : ovB x.a x.n t 1 = true ↔ cov x t := by
  unfold ovB cov
  rw [decide_eq_true_eq]
  omega
theorem fnd_none (h : Rok size most S) (ht : 0 ≤ t) : fnd S t = none ↔ ∀ x ∈ S, ¬ cov x t := by
  unfold fnd
  rw [List.find?_eq_none]
  constructor
  · intro h2 x hx hc
    exact h2 x hx ((ov1 ⟨(h.all x hx).a0, (h.all x hx).n0⟩ ht).2 hc)
  · intro h2 x hx hc
    exact h2 x hx ((ov1 ⟨(h.all x hx).a0, (h.all x hx).n0⟩ ht).1 hc)
theorem cov_one (h : Rok size most S) (hx : x ∈ S) (hy : y ∈ S) (h1 : cov x t) (h2 : cov y t) : x = y := by
  obtain ⟨i, hi, rfl⟩ := List.getElem_of_mem hx
  obtain ⟨j, hj, rfl⟩ := List.getElem_of_mem hy
  unfold cov at h1 h2
  rcases Nat.lt_trichotomy i j with hij | hij | hij
  · have := up_a h hi hj hij
    omega
  · subst hij; rfl
  · have := up_a h hj hi hij
    omega
theorem fnd_some (h : Rok size most S) (ht : 0 ≤ t) : fnd S t = some x ↔ x ∈ S ∧ cov x t := by
  constructor
  · intro h2
    have hm := List.mem_of_find?_eq_some h2
    exact ⟨hm, (ov1 ⟨(h.all x hm).a0, (h.all x hm).n0⟩ ht).1 (by simpa using List.find?_some h2)⟩
  · rintro ⟨hm, hc⟩
    cases h2 : fnd S t with
    | none => exact absurd hc ((fnd_none h ht).1 h2 x hm)
    | some y =>
      have hm2 := List.mem_of_find?_eq_some h2
      have hc2 := (ov1 ⟨(h.all y hm2).a0, (h.all y hm2).n0⟩ ht).1 (by simpa using List.find?_some h2)
      rw [cov_one h hm hm2 hc hc2]
/-- So many fit there. -/
def Fits (size m : Int) (S : List Pc) (s : Int) : Prop := 0 ≤ s ∧ s + m ≤ size ∧ ∀ x ∈ S, x.a + x.n ≤ s ∨ s + m ≤ x.a
theorem place_spec (h : Rok size most S) (hm : 0 < m) : ∀ (R P : List Pc) (a : Int), S = P ++ R → 0 ≤ a → a ≤ size → a % 64 = 0 → (∀ x ∈ P, x.a + x.n ≤ a) → (∀ s, Fits size m S s → a ≤ s) →
    (∀ c, (placeG m R a).1 = some c → Fits size m S c ∧ c % 64 = 0 ∧ ∀ s, Fits size m S s → c ≤ s) ∧
    ((placeG m R a).1 = none → (∀ x ∈ S, x.a + x.n ≤ (placeG m R a).2) ∧ 0 ≤ (placeG m R a).2 ∧ (placeG m R a).2 ≤ size ∧ (placeG m R a).2 % 64 = 0 ∧ ∀ s, Fits size m S s → (placeG m R a).2 ≤ s)
  | [], P, a, hS, h0, hsz, h64, hP, hF => by
    refine ⟨fun c hc => (by cases hc), fun _ => ⟨fun x hx => hP x (by rw [hS, List.append_nil] at hx; exact hx), h0, hsz, h64, hF⟩⟩
  | x :: r, P, a, hS, h0, hsz, h64, hP, hF => by
    have hxS : x ∈ S := by rw [hS]; simp
    have hp := h.all x hxS
    have g1 := hp.n0
    have g2 := hp.en
    have g3 := hp.am
    have g4 := hp.nm
    have g5 := hp.a0
    have hup := h.up
    rw [hS, List.pairwise_append, List.pairwise_cons] at hup
    unfold placeG
    by_cases hg : m ≤ x.a - a
    · rw [if_pos hg]
      refine ⟨fun c hc => ?_, fun hc => by cases hc⟩
      cases hc
      refine ⟨⟨h0, by omega, fun y hy => ?_⟩, h64, hF⟩
      rw [hS] at hy
      rcases List.mem_append.1 hy with hy | hy
      · exact .inl (hP y hy)
      · rcases List.mem_cons.1 hy with rfl | hy
        · exact .inr (by omega)
        · have := hup.2.1.1 y hy
          exact .inr (by omega)
    · rw [if_neg hg]
      refine place_spec h hm r (P ++ [x]) (x.a + x.n) (by rw [hS]; simp) (by omega) (by omega) (by omega) (fun y hy => ?_) (fun s hs => ?_)
      · rcases List.mem_append.1 hy with hy | hy
        · have := hup.2.2 y hy x (by simp)
          omega
        · rw [List.mem_singleton.1 hy]; exact Int.le_refl _
      · have h1 := hF s hs
        rcases hs.2.2 x hxS with h2 | h2
        · exact h2
        · omega
/-- Pages that are free, from one on. -/
def Wp (N q : Int) (F : Int → Prop) (s : Int) : Prop := 0 ≤ s ∧ s + q ≤ N ∧ ∀ j, s ≤ j → j < s + q → F j
theorem fits_pages (h : Rok size most S) (hs : size % 64 = 0) {s q : Int} (hq : 0 < q) : Fits size (64 * q) S (64 * s) ↔ Wp (size / 64) q (fun j => fnd S (64 * j) = none) s := by
  constructor
  · rintro ⟨h1, h2, h3⟩
    refine ⟨by omega, by omega, fun j hj1 hj2 => ?_⟩
    refine (fnd_none h (by omega)).2 ?_
    intro x hx hc
    unfold cov at hc
    rcases h3 x hx with h4 | h4 <;> omega
  · rintro ⟨h1, h2, h3⟩
    refine ⟨by omega, by omega, fun x hx => ?_⟩
    have hp := h.all x hx
    have g1 := hp.n0
    have g3 := hp.am
    have g4 := hp.nm
    have g5 := hp.a0
    rcases Int.lt_or_le (64 * s) (x.a + x.n) with h4 | h4
    · rcases Int.lt_or_le x.a (64 * s + 64 * q) with h5 | h5
      · exfalso
        rcases Int.le_total (x.a / 64) s with h6 | h6
        · have := (fnd_none h (by omega)).1 (h3 s (by omega) (by omega)) x hx
          exact this ⟨by omega, by omega⟩
        · have := (fnd_none h (by omega)).1 (h3 (x.a / 64) (by omega) (by omega)) x hx
          exact this ⟨by omega, by omega⟩
      · exact .inr h5
    · exact .inl h4
/-- What the search by pages knows behind k of them. -/
structure Run (N q : Int) (F : Int → Prop) (k run least : Int) : Prop where
  r0 : 0 ≤ run ∧ run ≤ k
  free : ∀ j, k - run ≤ j → j < k → F j
  most : run < k → ¬ F (k - run - 1)
  least : (least = -1 ∧ ∀ s, Wp N q F s → k < s + q) ∨ ∃ s, least = 64 * s ∧ Wp N q F s ∧ ∀ s', Wp N q F s' → s ≤ s'
theorem run0 {N q : Int} {F : Int → Prop} (hq : 0 < q) : Run N q F 0 0 (-1) := ⟨by omega, fun j h1 h2 => by omega, fun h => by omega, .inl ⟨rfl, fun s hs => by have := hs.1; omega⟩⟩
theorem run_busy {N q k run least : Int} {F : Int → Prop} (h : Run N q F k run least) (hF : ¬ F k) (hq : 0 < q) (hk : 0 ≤ k) : Run N q F (k + 1) 0 least := by
  refine ⟨by omega, fun j h1 h2 => by omega, fun _ => by rwa [show k + 1 - 0 - 1 = k by omega], ?_⟩
  rcases h.least with ⟨h1, h2⟩ | h1
  · refine .inl ⟨h1, fun s hs => ?_⟩
    have h3 := h2 s hs
    rcases Int.lt_or_le (k + 1) (s + q) with h4 | h4
    · exact h4
    · exact absurd (hs.2.2 k (by omega) (by omega)) hF
  · exact .inr h1
theorem run_free {N q k run least : Int} {F : Int → Prop} (h : Run N q F k run least) (hF : F k) (hq : 0 < q) (hkN : k < N) :
    (run + 1 = q → least < 0 → Run N q F (k + 1) (run + 1) (64 * (k + 1) - 64 * q)) ∧ (q < run + 1 → ¬ least < 0) ∧ ((run + 1 ≠ q ∨ ¬ least < 0) → Run N q F (k + 1) (run + 1) least) := by
  have hr := h.r0
  have hfree : ∀ j, k + 1 - (run + 1) ≤ j → j < k + 1 → F j := fun j h1 h2 => by
    rcases Int.lt_or_le j k with h3 | h3
    · exact h.free j (by omega) h3
    · rw [show j = k by omega]; exact hF
  have hmost : run + 1 < k + 1 → ¬ F (k + 1 - (run + 1) - 1) := fun h1 => by rw [show k + 1 - (run + 1) - 1 = k - run - 1 by omega]; exact h.most (by omega)
  refine ⟨fun h1 h2 => ⟨by omega, hfree, hmost, .inr ⟨k + 1 - q, by omega, ⟨by omega, by omega, fun j h3 h4 => hfree j (by omega) (by omega)⟩, fun s' hs' => ?_⟩⟩, fun h1 h2 => ?_, fun h1 => ⟨by omega, hfree, hmost, ?_⟩⟩
  · rcases h.least with ⟨_, h3⟩ | ⟨s, h3, h4, _⟩
    · have := h3 s' hs'
      omega
    · have := h4.1
      omega
  · rcases h.least with ⟨_, h3⟩ | ⟨s, h3, h4, _⟩
    · have := h3 (k - q) ⟨by omega, by omega, fun j h5 h6 => h.free j (by omega) (by omega)⟩
      omega
    · have := h4.1
      omega
  · rcases h.least with ⟨h2, h3⟩ | h2
    · refine .inl ⟨h2, fun s hs => ?_⟩
      have h4 := h3 s hs
      rcases Int.lt_or_le (k + 1) (s + q) with h5 | h5
      · exact h5
      · exfalso
        have hsq : s + q = k + 1 := by omega
        have hne : run + 1 ≠ q := by
          rcases h1 with h1 | h1
          · exact h1
          · omega
        rcases Int.lt_or_le (run + 1) q with h6 | h6
        · have := hs.1
          exact hmost (by omega) (hs.2.2 _ (by omega) (by omega))
        · have := h3 (k - q) ⟨by omega, by omega, fun j h7 h8 => h.free j (by omega) (by omega)⟩
          omega
    · exact .inr h2
end
end Go.Proofs.Ytgkbbihaaichbaa.Reg

set_option maxRecDepth 100000
set_option maxHeartbeats 8000000
namespace Go.Proofs.Ytgkbbihaaichbaa.Reg
open Go Go.Jac
def Pi (x : Pc) : Prop := I64 x.a ∧ I64 x.n ∧ I64 x.v ∧ I64 x.f ∧ I64 x.p
theorem pieces_of {w0 : World} {lv : Value} {n : Nat} (h : OldSl pg w0 72 5 lv n) : ∃ l : List Pc, l.length = n ∧ (∀ x ∈ l, Pi x) ∧ OldL w0 5 pc lv l ∧ n ≤ maxLen := by
  refine h.list fun vs hv => ?_
  obtain ⟨x0, x1, x2, x3, x4, rfl, h0, h1, h2, h3, h4⟩ := rd72 hv
  exact ⟨⟨x0, x1, x2, x3, x4⟩, rfl, I64.of_wf h0, I64.of_wf h1, I64.of_wf h2, I64.of_wf h3, I64.of_wf h4⟩
theorem pcO_len (o : Option Pc) : (pcO o).length = 5 := by cases o <;> rfl
theorem pcO_one (o : Option Pc) : ∀ u ∈ pcO o, u.oneCell' = true := by cases o <;> exact ones rfl
theorem ins_mem {S : List Pc} {x y : Pc} : y ∈ insP S x ↔ y = x ∨ y ∈ S := by rw [ins_perm.mem_iff, List.mem_cons]
section
variable {w0 w : World} {L : List HP} {K : Value → WP} {b n : Nat} {size most : Int} {sv lv v : Value} {x : Pc} {S : List Pc}
end
end Go.Proofs.Ytgkbbihaaichbaa.Reg

set_option maxRecDepth 100000
set_option maxHeartbeats 8000000
namespace Go.Proofs.Ytgkbbihaaichbaa.Reg
open Go Go.Jac
def Has (S : List Pc) (t : Int) (c : Int × Int × Int) : Prop := ∃ x ∈ S, cov x t ∧ vals x = c
def sumN (S : List Pc) : Int := (S.map (·.n)).sum
section
variable {size most : Int} {S : List Pc} {x y : Pc} {t m at_ : Int}
theorem val_iff (h : Rok size most S) (ht : 0 ≤ t) (c : Int × Int × Int) : (fnd S t).map vals = some c ↔ Has S t c := by
  rw [Option.map_eq_some_iff]
  constructor
  · rintro ⟨x, hx, rfl⟩
    have := (fnd_some h ht).1 hx
    exact ⟨x, this.1, this.2, rfl⟩
  · rintro ⟨x, hx, hc, rfl⟩
    exact ⟨x, (fnd_some h ht).2 ⟨hx, hc⟩, rfl⟩
theorem has_cut (h : Rok size most S) (hm : 0 ≤ at_ ∧ 0 < m) (c : Int × Int × Int) : Has (S.flatMap (outP at_ m)) t c ∨ Has (S.flatMap (inP at_ m)) t c ↔ Has S t c := by
  constructor
  · rintro (⟨y, hy, hc, hv⟩ | ⟨y, hy, hc, hv⟩)
    · obtain ⟨x, hx, hy⟩ := List.mem_flatMap.1 hy
      obtain ⟨h1, h2, h3, h4, _⟩ := outP_in ⟨(h.all x hx).a0, (h.all x hx).n0⟩ hm y hy
      unfold cov at hc
      exact ⟨x, hx, ⟨by omega, by omega⟩, by rw [← hv, h4]⟩
    · obtain ⟨x, hx, hy⟩ := List.mem_flatMap.1 hy
      obtain ⟨h1, h2, h3, h4, _⟩ := inP_in ⟨(h.all x hx).a0, (h.all x hx).n0⟩ hm y hy
      unfold cov at hc
      exact ⟨x, hx, ⟨by omega, by omega⟩, by rw [← hv, h4]⟩
  · rintro ⟨x, hx, hc, hv⟩
    unfold cov at hc
    have a0 := (h.all x hx).a0
    have n0 := (h.all x hx).n0
    cases ho : ovB x.a x.n at_ m with
    | false =>
      refine .inl ⟨x, List.mem_flatMap.2 ⟨x, hx, ?_⟩, hc, hv⟩
      unfold outP
      rw [ho]; simp
    | true =>
      have ho2 := ho
      unfold ovB at ho2
      have ho2 := of_decide_eq_true ho2
      rcases Int.lt_or_le t at_ with h1 | h1
      · refine .inl ⟨part x x.a at_, List.mem_flatMap.2 ⟨x, hx, ?_⟩, ?_, ?_⟩
        · unfold outP
          rw [ho, if_pos rfl, if_pos (by omega)]; simp
        · unfold cov part; simp only; omega
        · rw [← hv]; simp only [vals, part, Prod.mk.injEq, true_and]; omega
      · rcases Int.lt_or_le t (at_ + m) with h2 | h2
        · refine .inr ⟨part x at_ (at_ + m), List.mem_flatMap.2 ⟨x, hx, ?_⟩, ?_, ?_⟩
          · unfold inP
            rw [ho, if_pos rfl]; simp
          · unfold cov part; simp only; omega
          · rw [← hv]; simp only [vals, part, Prod.mk.injEq, true_and]; omega
        · refine .inl ⟨part x (at_ + m) (x.a + x.n), List.mem_flatMap.2 ⟨x, hx, ?_⟩, ?_, ?_⟩
          · unfold outP
            rw [ho, if_pos rfl, if_pos (show at_ + m < x.a + x.n by omega)]; simp
          · unfold cov part; simp only; omega
          · rw [← hv]; simp only [vals, part, Prod.mk.injEq, true_and]; omega
theorem sumN_app (A B : List Pc) : sumN (A ++ B) = sumN A + sumN B := by unfold sumN; rw [List.map_append, List.sum_append]
theorem sumN_cons (x : Pc) (A : List Pc) : sumN (x :: A) = x.n + sumN A := by unfold sumN; rw [List.map_cons, List.sum_cons]
theorem sumN_ins (S : List Pc) (x : Pc) : sumN (insP S x) = x.n + sumN S := by
  unfold insP
  rw [sumN_app, sumN_cons]
  have := sumN_app (S.take (pos S x.a)) (S.drop (pos S x.a))
  rw [List.take_append_drop] at this
  omega
theorem sum_bd (h : Rok size most S) : 0 ≤ sumN S ∧ sumN S ≤ (S.length : Int) * size := by
  have key : ∀ S : List Pc, (∀ x ∈ S, Pok size x) → 0 ≤ sumN S ∧ sumN S ≤ (S.length : Int) * size := by
    intro S
    induction S with
    | nil => intro _; simp [sumN]
    | cons x r ih =>
      intro h
      have h1 := ih fun y hy => h y (by simp [hy])
      have h2 := h x (by simp)
      have := h2.n0; have := h2.en; have := h2.a0
      rw [sumN_cons, List.length_cons]
      have e : ((r.length + 1 : Nat) : Int) * size = (r.length : Int) * size + size := by rw [Int.natCast_add, Int.add_mul]; simp
      rw [e]
      omega
  exact key S h.all
theorem sum_one (hx : 0 ≤ x.a ∧ 0 < x.n) (hm : 0 ≤ at_ ∧ 0 < m) : sumN (outP at_ m x) + sumN (inP at_ m x) = x.n := by
  unfold outP inP
  split
  · rename_i h
    unfold ovB at h
    have h := of_decide_eq_true h
    rw [sumN_app]
    split <;> split <;> simp only [sumN, part, List.map_cons, List.map_nil, List.sum_cons, List.sum_nil] <;> omega
  · simp [sumN]
theorem sum_cut (hm : 0 ≤ at_ ∧ 0 < m) : ∀ {S : List Pc}, (∀ x ∈ S, 0 ≤ x.a ∧ 0 < x.n) → sumN (S.flatMap (outP at_ m)) + sumN (S.flatMap (inP at_ m)) = sumN S
  | [], _ => rfl
  | x :: r, h => by
    have h1 := sum_one (h x (by simp)) hm
    have h2 := sum_cut hm (S := r) fun y hy => h y (by simp [hy])
    rw [List.flatMap_cons, List.flatMap_cons, sumN_app, sumN_app, sumN_cons]
    omega
end
section
variable {w0 w : World} {L : List HP} {K : Value → WP} {b n : Nat} {size most : Int} {sv lv v : Value} {x : Pc} {S : List Pc}
variable {α : Type} {g : α → List Value} {W : List α} {es : Nat}
theorem arr_st {ba t k : Nat} {y : α} (hg : ∀ x, (g x).length = es) (hk : k < W.length) (h1 : ∀ u ∈ g y, u.oneCell' = true) (d : D w0 (cel ba t (W.flatMap g) :: L) w) (kk : ∀ w', D w0 (cel ba t ((W.set k y).flatMap g) :: L) w' → K undef w') : St es (.pointer (some ⟨ba, k * es, none⟩)) (.agg (g y).toArray) K w := by
  obtain ⟨pre, post, e1, e2, e3⟩ := flat_at hg hk
  have hl : k * es + es ≤ (W.flatMap g).length := by rw [flat_len hg, ← Nat.succ_mul]; exact Nat.mul_le_mul_right _ hk
  refine d_st (o := k * es) d (by rw [cells_agg, List.size_toArray, hg]) hl (by rw [cells_agg]; exact h1) fun w' d' => kk w' ?_
  have key : splice (W.flatMap g) (k * es) (Value.agg (g y).toArray).cells.toList = (W.set k y).flatMap g := by
    rw [cells_agg, e1, e3]
    show splice (pre ++ g W[k] ++ post) (k * es) (g y) = _
    rw [splice_mid (o := 0) (by omega) (by rw [hg, hg]; omega), splice_whole (by rw [hg, hg])]
  rw [key] at d'
  exact d'
theorem arr_at {k : Nat} (hg : ∀ x, (g x).length = es) (hk : k < W.length) : ((W.flatMap g).drop (k * es)).take es = g W[k] := by
  obtain ⟨pre, post, e1, e2, e3⟩ := flat_at hg hk
  rw [e1, ← e2, List.append_assoc, List.drop_left, ← hg W[k], List.take_left]
theorem idx_ok {t e m k : Nat} {cs : List Value} {P : Program} {inf : TypeInfo} (ht : P.underlying t = some (.array m e)) (ha : ∀ w, (isAgg e).run P w = .ok true w) (hi : P.info? e = some inf) (hk : k < m) (kk : K (.agg ((cs.drop (k * inf.size)).take inf.size).toArray) w) : Ex P (Instr.index t (.agg cs.toArray) (.int .i64 k)) K w := by
  refine ⟨_, w, ?_, kk⟩
  have h0 : (0 : Int) ≤ (k : Int) ∧ (k : Int) < (m : Int) := ⟨by omega, by omega⟩
  have e1 : cs.toArray.extract (k * inf.size) (k * inf.size + inf.size) = ((cs.drop (k * inf.size)).take inf.size).toArray := by
    apply Array.ext'
    simp
  simp [Instr.index, run_underlying ht, asIntOf, hk, Go.part, ha, Go.Jac.run_sizeOf hi]
end
section
variable {w0 w : World} {L : List HP} {K : Value → WP} {b n : Nat} {size most : Int} {sv lv v : Value} {x : Pc} {S : List Pc}
end
end Go.Proofs.Ytgkbbihaaichbaa.Reg

set_option maxRecDepth 100000
set_option maxHeartbeats 8000000
namespace Go.Proofs.Ytgkbbihaaichbaa.Reg
open Go Go.Jac Go.Sort
instance : Inhabited Pc := ⟨⟨0, 0, 0, 0, 0⟩⟩
def ordA (x y : Pc) : Int := cmpI x.a y.a
theorem ordA_lt {x y : Pc} : ordA x y < 0 ↔ x.a < y.a := by by_cases h1 : x.a < y.a <;> by_cases h2 : y.a < x.a <;> simp [ordA, cmpI, h1, h2] <;> omega
theorem ordA_swo : SWO (Go.Proofs.ltOf ordA) where
  irrefl x := by simp only [Go.Proofs.ltOf, decide_eq_false_iff_not, ordA_lt]; omega
  trans x y z h1 h2 := by simp only [Go.Proofs.ltOf, decide_eq_true_eq, ordA_lt] at *; omega
  ntrans x y z h1 h2 := by simp only [Go.Proofs.ltOf, decide_eq_false_iff_not, ordA_lt] at *; omega
def setp (p : Int) (x : Pc) : Pc := ⟨x.a, x.n, x.v, x.f, p⟩
def apt (x y : Pc) : Prop := x.a + x.n ≤ y.a ∨ y.a + y.n ≤ x.a
theorem prot_rok {size most at_ m p : Int} {S P : List Pc} (h : Rok size most S) (hm : at_ % 64 = 0 ∧ m % 64 = 0 ∧ 0 ≤ at_ ∧ 0 < m) (hp : 0 ≤ p ∧ p ≤ 3) (hl : (S.flatMap (outP at_ m)).length + (S.flatMap (inP at_ m)).length ≤ most)
    (hP : P.Perm (S.flatMap (outP at_ m) ++ (S.flatMap (inP at_ m)).map (setp p))) (hs : P.Pairwise fun x y => 0 ≤ ordA y x) : Rok size most P := by
  have hx := fun (x : Pc) (hx : x ∈ S) => (⟨(h.all x hx).a0, (h.all x hx).n0⟩ : 0 ≤ x.a ∧ 0 < x.n)
  have hm2 : 0 ≤ at_ ∧ 0 < m := ⟨hm.2.2.1, hm.2.2.2⟩
  have hpok : ∀ y ∈ P, Pok size y := by
    intro y hy
    rcases List.mem_append.1 (hP.mem_iff.1 hy) with h1 | h1
    · obtain ⟨x, hxS, h1⟩ := List.mem_flatMap.1 h1
      exact out_pok (h.all x hxS) hm y h1
    · obtain ⟨z, hz, rfl⟩ := List.mem_map.1 h1
      obtain ⟨x, hxS, hz⟩ := List.mem_flatMap.1 hz
      have := in_pok (h.all x hxS) hm z hz
      exact ⟨this.a0, this.n0, this.am, this.nm, this.en, this.f0, this.fm, this.fa, hp⟩
  have hapt : P.Pairwise apt := by
    refine (hP.pairwise_iff fun {x y} h1 => h1.symm).2 ?_
    rw [List.pairwise_append]
    refine ⟨?_, ?_, fun y hy z hz => ?_⟩
    · exact (flat_up h (fun x hxS => outP_up hm2 (hx x hxS)) fun x hxS y hy => by
        have := outP_in (hx x hxS) hm2 y hy
        exact ⟨this.1, this.2.2.1⟩).imp fun h1 => .inl h1
    · rw [List.pairwise_map]
      exact (flat_up h (fun x hxS => inP_up) fun x hxS y hy => by
        have := inP_in (hx x hxS) hm2 y hy
        exact ⟨this.1, this.2.2.1⟩).imp fun h1 => .inl h1
    · obtain ⟨x, hxS, hy⟩ := List.mem_flatMap.1 hy
      obtain ⟨u, hu, rfl⟩ := List.mem_map.1 hz
      obtain ⟨x', hxS', hu⟩ := List.mem_flatMap.1 hu
      have h1 := outP_in (hx x hxS) hm2 y hy
      have h2 := inP_in (hx x' hxS') hm2 u hu
      unfold apt setp
      simp only
      omega
  refine ⟨h.sz, h.mo, hpok, ?_, by rw [hP.length_eq, List.length_append, List.length_map]; omega⟩
  refine List.Pairwise.imp_of_mem ?_ (hs.and hapt)
  intro x y hxP hyP ⟨h1, h2⟩
  have h3 : ¬ ordA y x < 0 := by omega
  rw [ordA_lt] at h3
  have := (hpok x hxP).n0
  have := (hpok y hyP).n0
  unfold apt at h2
  omega
section
variable {w0 w : World} {L : List HP} {K : Value → WP} {b n : Nat} {size most : Int} {sv lv v : Value} {x : Pc} {S H : List Pc}
theorem prc_ok {x y : Pc} (d : D w0 L w) (k : ∀ w', D w0 L w' → K (.int .i64 (ordA x y)) w') : Cl pg 62 #[.agg (pc x).toArray, .agg (pc y).toArray] K w := by
  refine V.region_Region_Protect_c1_ok ?_
  unfold V.region_Region_Protect_c1
  simp only [cells_agg]
  have hpx : pc x = [.int .i64 x.a, .int .i64 x.n, .int .i64 x.v, .int .i64 x.f, .int .i64 x.p] := rfl
  have hpy : pc y = [.int .i64 y.a, .int .i64 y.n, .int .i64 y.v, .int .i64 y.f, .int .i64 y.p] := rfl
  rw [hpx, hpy]
  repeat (first | (simp +decide only [SEM]) | (apply ldm d; (focus ((repeat (first | exact .h _ | refine .t _ _ ?_)); done)); (focus rfl)) | (refine d_new _ d fun bn w d => ?_))
  refine fn20 (fun _ _ => rfl) (Compare_ok ?_)
  exact k _ d.tail.tail
theorem SortP_ok (hS : H.length ≤ 1000000) (d : D w0 (Rw 72 5 sv H.length (H.flatMap pc) :: L) w)
    (k : ∀ (P : List Pc) w', P.Perm H → P.Pairwise (fun x y => 0 ≤ ordA y x) → D w0 (Rw 72 5 sv P.length (P.flatMap pc) :: L) w' → K (.tuple #[]) w') : Cl pg 85 #[sv, .func (.func 62) #[] #[]] K w := by
  refine sort_k (K := K) (f := pc) (S := H) (cf := ordA) sLay sAgg sSize pc_len (fun x => ones rfl) ordA_swo (fun _ _ => rfl) (fun w x y K k => prc_ok (D.start w) k) (by omega) d fun P w' hp hs d => k P w' hp hs d
theorem AppSeqP_ok {bv : Nat} (hH : H.length ≤ 1000000) (d : D w0 (cel bv 33 [sv] :: Rw 72 5 sv H.length (H.flatMap pc) :: L) w)
    (k : ∀ sv' w', D w0 (Rw 72 5 sv' H.length (H.flatMap pc) :: L) w' → K sv' w') :
    Cl pg 93 #[.slice none 0 0, .func (.func 86) #[] #[.pointer (some ⟨bv, 0, none⟩)]] K w := by
  refine V.slices_AppendSeq_Piece_Piece_ok ?_
  unfold V.slices_AppendSeq_Piece_Piece
  obtain ⟨q, c, rfl, -⟩ := Rw.shape d.swap.1
  simp only [cells_sl]
  refine d_new _ d fun bo w d => ?_
  refine d_rf0 (fun _ _ => rfl) d fun m l r0 w hr hp hro d => ?_
  refine V.slices_Values_c1_Piece_Piece_ok ?_
  unfold V.slices_Values_c1_Piece_Piece
  have d0 : D w0 (Rw 72 5 (.slice none 0 0) (H.take 0).length ((H.take 0).flatMap pc) :: _) w := ⟨Rw.nil _ _ d.1, d.2⟩
  have d := D.sel [1, 3, 0, 4, 5, 2] d0
  clear d0
  repeat (first | (simp +decide only [SEM]) | (apply ldm d; (focus ((repeat (first | exact .h _ | refine .t _ _ ?_)); done)); (focus rfl)))
  refine ⟨fun vs w => ∃ (i : Nat) (sv' : Value), vs = [.int .i64 i] ∧ i ≤ H.length ∧ D w0 (pts l (.loop r0) :: cel bo 33 [sv'] :: Rw 72 5 sv' (H.take i).length ((H.take i).flatMap pc) :: cel bv 33 [.slice q H.length c] :: Rw 72 5 (.slice q H.length c) H.length (H.flatMap pc) :: pts m (.deferred (some [])) :: L) w, fun vs _ => match vs with | [.int _ i] => H.length - i.toNat | _ => 0, ⟨0, _, rfl, by omega, d⟩, ?_⟩
  clear d
  rintro _ w ⟨i, sv', rfl, hi, d⟩ _
  simp only [UN]
  repeat (simp +decide only [SEM])
  refine ⟨fun hlt => ?_, fun hge => ?_⟩
  · have hlt' : i < H.length := by omega
    refine rw_elN d (.t _ _ (.t _ _ (.t _ _ (.t _ _ (.h _))))) pc_len hlt' ?_
    have hpx : pc H[i] = [.int .i64 H[i].a, .int .i64 H[i].n, .int .i64 H[i].v, .int .i64 H[i].f, .int .i64 H[i].p] := rfl
    rw [hpx]
    repeat (first | (apply lam d; (focus ((repeat (first | exact .h _ | refine .t _ _ ?_)); done)); (focus rfl)) | (refine d_new _ d fun bn w d => ?_) | (apply swm d; (focus ((repeat (first | exact .h _ | apply Rp.t)); done)); (focus rfl); (focus rfl); (focus exact ones rfl); intro w d; simp only [SPL] at d))
    generalize bn = b9 at d ⊢
    refine y_ok (args := [.agg (pc H[i]).toArray]) hro (D.sel [1] d) ?_
    simp only [UN, UNe]
    rw [hpx]
    repeat (first | (refine d_new _ d fun bn w d => ?_) | (apply swm d; (focus ((repeat (first | exact .h _ | apply Rp.t)); done)); (focus rfl); (focus rfl); (focus exact ones rfl); intro w d; simp only [SPL] at d))
    generalize bn = b8 at d ⊢
    refine d_beg (D.sel [2] d) hr fun w d => ?_
    repeat (first | (apply ldm d; (focus ((repeat (first | exact .h _ | refine .t _ _ ?_)); done)); (focus rfl)) | (apply lam d; (focus ((repeat (first | exact .h _ | refine .t _ _ ?_)); done)); (focus rfl)) | refine bsl1 (by first | rfl | (simp only [cells_agg, cells_int, cells_bool, cells_ptr, cells_sl, cells_map, cells_fn, List.drop_succ_cons, List.drop_zero, List.take_succ_cons, List.take_zero, Nat.zero_add, Nat.reduceAdd, Int.toNat_natCast, Int.toNat_zero]; rfl)) rfl d (by decide) (by decide) fun bn w d => ?_)
    have hlen : (H.take i).length = i := by rw [List.length_take]; omega
    refine d_app (m := 1) (D.sel [5] d) (src_of (gc1 (D.sel [5] d)) rfl (ones rfl) 1) rfl (by omega) (by omega) (by omega) (ones rfl) fun sv'' w d => ?_
    obtain ⟨q4, c4, rfl, -⟩ := Rw.shape d.1
    repeat (apply swm d; (focus ((repeat (first | exact .h _ | apply Rp.t)); done)); (focus rfl); (focus rfl); (focus exact ones rfl); intro w d; simp only [SPL] at d)
    refine d_end0 (D.sel [2] d) fun w d => ?_
    rw [loop_eta hr hp] at d
    repeat (simp +decide only [SEM])
    rw [w64 (by omega) (by omega)]
    refine ⟨⟨i + 1, .slice q4 ((H.take i).length + 1) c4, by simp, by omega, ?_⟩, by show H.length - ((i : Int) + 1).toNat < H.length - (i : Int).toNat; omega⟩
    rw [List.take_succ_eq_append_getElem hlt', List.length_append, List.flatMap_append, List.flatMap_singleton]
    exact (D.sel [2, 3, 4, 0, 5, 1] d).tail.tail.tail
  · have hi' : i = H.length := by omega
    subst hi'
    rw [List.take_length] at d
    refine ⟨r0, _, d, sameLp.refl r0, by rw [hr]; simp, fun w d => ?_⟩
    rw [hp]
    simp only [JumpC]
    repeat (apply ldm d; (focus ((repeat (first | exact .h _ | refine .t _ _ ?_)); done)); (focus rfl))
    refine d_lv1 (D.sel [4] d) fun w d => ?_
    exact k _ _ (D.sel [0, 2, 3, 1] d).tail.tail.tail
end
end Go.Proofs.Ytgkbbihaaichbaa.Reg

set_option maxRecDepth 100000
set_option maxHeartbeats 8000000
namespace Go.Proofs.Ytgkbbihaaichbaa.Reg
open Go Go.Jac
section
variable {size most : Int} {S P : List Pc} {x y : Pc} {t m at_ p : Int} {c c' : Int × Int × Int}
theorem has_one (h : Rok size most S) (h1 : Has S t c) (h2 : Has S t c') : c = c' := by
  obtain ⟨x, hx, hc, rfl⟩ := h1
  obtain ⟨y, hy, hc', rfl⟩ := h2
  rw [cov_one h hx hy hc hc']
theorem has_ins : Has (insP S x) t c ↔ (cov x t ∧ vals x = c) ∨ Has S t c := by
  unfold Has
  constructor
  · rintro ⟨y, hy, h⟩
    rcases ins_mem.1 hy with rfl | hy
    · exact .inl h
    · exact .inr ⟨y, hy, h⟩
  · rintro (h | ⟨y, hy, h⟩)
    · exact ⟨x, ins_mem.2 (.inl rfl), h⟩
    · exact ⟨y, ins_mem.2 (.inr hy), h⟩
theorem has_out (h : Rok size most S) (hm : 0 ≤ at_ ∧ 0 < m) : Has (S.flatMap (outP at_ m)) t c ↔ Has S t c ∧ ¬ (at_ ≤ t ∧ t < at_ + m) := by
  have key : Has (S.flatMap (outP at_ m)) t c → ¬ (at_ ≤ t ∧ t < at_ + m) := by
    rintro ⟨y, hy, hc, _⟩
    obtain ⟨x, hx, hy⟩ := List.mem_flatMap.1 hy
    have := outP_in ⟨(h.all x hx).a0, (h.all x hx).n0⟩ hm y hy
    unfold cov at hc
    omega
  constructor
  · exact fun h1 => ⟨(has_cut h hm c).1 (.inl h1), key h1⟩
  · rintro ⟨h1, h2⟩
    rcases (has_cut h hm c).2 h1 with h3 | ⟨y, hy, hc, _⟩
    · exact h3
    · obtain ⟨x, hx, hy⟩ := List.mem_flatMap.1 hy
      have := inP_in ⟨(h.all x hx).a0, (h.all x hx).n0⟩ hm y hy
      unfold cov at hc
      exact absurd ⟨by omega, by omega⟩ h2
theorem has_in (h : Rok size most S) (hm : 0 ≤ at_ ∧ 0 < m) : Has (S.flatMap (inP at_ m)) t c ↔ Has S t c ∧ (at_ ≤ t ∧ t < at_ + m) := by
  have key : Has (S.flatMap (inP at_ m)) t c → at_ ≤ t ∧ t < at_ + m := by
    rintro ⟨y, hy, hc, _⟩
    obtain ⟨x, hx, hy⟩ := List.mem_flatMap.1 hy
    have := inP_in ⟨(h.all x hx).a0, (h.all x hx).n0⟩ hm y hy
    unfold cov at hc
    omega
  constructor
  · exact fun h1 => ⟨(has_cut h hm c).1 (.inr h1), key h1⟩
  · rintro ⟨h1, h2⟩
    rcases (has_cut h hm c).2 h1 with h3 | h3
    · exact absurd h2 ((has_out h hm).1 h3).2
    · exact h3
theorem has_prot (h : Rok size most S) (hm : 0 ≤ at_ ∧ 0 < m) (hP : P.Perm (S.flatMap (outP at_ m) ++ (S.flatMap (inP at_ m)).map (setp p))) : Has P t c ↔ (Has S t c ∧ ¬ (at_ ≤ t ∧ t < at_ + m)) ∨ ∃ c', (Has S t c' ∧ (at_ ≤ t ∧ t < at_ + m)) ∧ c = (c'.1, p, c'.2.2) := by
  rw [← has_out h hm]
  constructor
  · rintro ⟨y, hy, hc, hv⟩
    rcases List.mem_append.1 (hP.mem_iff.1 hy) with h1 | h1
    · exact .inl ⟨y, h1, hc, hv⟩
    · obtain ⟨z, hz, rfl⟩ := List.mem_map.1 h1
      exact .inr ⟨vals z, (has_in h hm).1 ⟨z, hz, hc, rfl⟩, hv.symm⟩
  · rintro (⟨y, hy, hc, hv⟩ | ⟨c', h1, rfl⟩)
    · exact ⟨y, hP.mem_iff.2 (List.mem_append_left _ hy), hc, hv⟩
    · obtain ⟨z, hz, hc, rfl⟩ := (has_in h hm).2 h1
      exact ⟨setp p z, hP.mem_iff.2 (List.mem_append_right _ (List.mem_map.2 ⟨z, hz, rfl⟩)), hc, rfl⟩
end
section
variable {w0 w : World} {L : List HP} {K : Value → WP} {b n : Nat} {size most : Int} {sv lv v : Value} {x : Pc} {S H : List Pc}
/-- A row behind a row, it may be empty. -/
theorem d_appm {elem es bytes m : Nat} {zero : Array Value} {x : Value} {cs news : List Value} (d : D w0 (Rw elem es sv n cs :: L) w) (hx : SrcV es x m news w) (hz : zero.size = es) (hb : (n + m) * bytes ≤ 140737488355328) (h63 : n + m < 4611686018427387904)
    (hx2 : ∀ v ∈ news, v.oneCell' = true)
    (k : ∀ sv' w', D w0 (Rw elem es sv' (n + m) (cs ++ news) :: L) w' → K sv' w') : AppC elem es bytes zero sv x K w := by
  rcases Nat.eq_zero_or_pos m with h0 | h0
  · subst h0
    have hc0 : news = [] := by
      have hl : news.length = 0 * es := by
        rcases hx with ⟨a, c', h, hl, _⟩ | ⟨c', h, hn, hc⟩
        · exact hl
        · simp [hc]
      exact List.length_eq_zero_iff.1 (by simpa using hl)
    subst hc0
    obtain ⟨q, c, rfl, hle⟩ := Rw.shape d.1
    exact ⟨_, _, _, 0, [], rfl, hx, .inl ⟨rfl, hle, k _ _ (by simpa using d)⟩⟩
  · exact d_app d hx hz h0 hb h63 hx2 k
theorem Protect_ok {at_ m p : Int} (hI : I64 at_ ∧ I64 m ∧ I64 p) (d : D w0 (Rg b size most S :: L) w)
    (k1 : ∀ s : Int, s ≠ 0 → ((p < 0 ∨ 3 < p) ∨ chkSt size at_ m ≠ 0 ∨ sumN (S.flatMap (inP at_ m)) ≠ m ∨ most < ((S.flatMap (outP at_ m)).length : Int) + (S.flatMap (inP at_ m)).length) → ∀ w', D w0 (Rg b size most S :: L) w' → K (.int .i64 s) w')
    (k2 : chkSt size at_ m = 0 → (0 ≤ p ∧ p ≤ 3) → ∀ (P : List Pc) w', P.Perm (S.flatMap (outP at_ m) ++ (S.flatMap (inP at_ m)).map (setp p)) → D w0 (Rg b size most P :: L) w' → K (.int .i64 0) w') :
    Cl pg 35 #[.pointer (some ⟨b, 0, none⟩), .int .i64 at_, .int .i64 m, .int .i64 p] K w := by
  refine V.region_Region_Protect_ok ?_
  unfold V.region_Region_Protect
  refine fn10 (fun _ _ => rfl) (wrong_ok ?_)
  repeat (simp +decide only [SEM])
  refine ⟨fun h => k1 _ (by decide) (.inl h) w d, fun hp => ?_⟩
  refine fn30 (fun _ _ => rfl) (check_ok d fun w d => ?_)
  repeat (simp +decide only [SEM])
  refine ⟨fun h1 => k1 _ h1 (.inr (.inl h1)) w d, fun h1 => ?_⟩
  have h1 : chkSt size at_ m = 0 := by simpa using h1
  have hc := chk0 h1
  have hm2 : 0 ≤ at_ ∧ 0 < m := ⟨by omega, by omega⟩
  have ok := Rg.facts d
  have hsz := ok.sz
  have hmo := ok.mo
  have hlen := ok.len
  refine fn30 (fun _ _ => rfl) (split_ok ⟨by omega, by omega, by omega⟩ d fun ov iv w d => ?_)
  have hIl := ins_len at_ m S
  have hOl := outs_len at_ m S
  have hsb : ∀ i, i ≤ (S.flatMap (inP at_ m)).length → 0 ≤ sumN ((S.flatMap (inP at_ m)).take i) ∧ sumN ((S.flatMap (inP at_ m)).take i) ≤ (i : Int) * 4294967296 := by
    intro i
    induction i with
    | zero => intro _; simp [sumN]
    | succ i ih =>
      intro hi
      have h3 := ih (by omega)
      rw [List.take_succ_eq_append_getElem (by omega), sumN_app]
      obtain ⟨x, hx, hy⟩ := List.mem_flatMap.1 (List.getElem_mem (show i < (S.flatMap (inP at_ m)).length by omega))
      have h4 := in_pok (ok.all x hx) ⟨hc.1, hc.2.1, hm2.1, hm2.2⟩ _ hy
      have h5 := h4.n0
      have h6 := h4.en
      have h7 := h4.a0
      have e : ((i + 1 : Nat) : Int) * 4294967296 = (i : Int) * 4294967296 + 4294967296 := by omega
      rw [e]
      simp only [sumN, List.map_cons, List.map_nil, List.sum_cons, List.sum_nil] at *
      omega
  generalize hgI : S.flatMap (inP at_ m) = I at *
  generalize hgO : S.flatMap (outP at_ m) = O at *
  obtain ⟨q1, c1, rfl, -⟩ := Rw.shape d.1
  obtain ⟨q2, c2, rfl, -⟩ := Rw.shape d.swap.1
  repeat (simp +decide only [SEM])
  have e0 : I = (I.take 0).map (setp p) ++ I.drop 0 := by simp
  refine ⟨fun vs w' => ∃ (i : Nat), vs = [.int .i64 (sumN (I.take i)), .int .i64 i] ∧ i ≤ I.length ∧ D w0 (Rw 72 5 (.slice q2 I.length c2) ((I.take i).map (setp p) ++ I.drop i).length (((I.take i).map (setp p) ++ I.drop i).flatMap pc) :: Rw 72 5 (.slice q1 O.length c1) O.length (O.flatMap pc) :: Rg b size most S :: L) w', fun vs _ => match vs with | [_, .int _ i] => I.length - i.toNat | _ => 0, ⟨0, rfl, by omega, ?_⟩, ?_⟩
  · rw [← e0]
    exact d.swap
  clear d
  rintro _ w ⟨i, rfl, hi, d⟩ _
  simp only [UN]
  repeat (simp +decide only [SEM])
  refine ⟨fun hlt => ?_, fun hge => ?_⟩
  · have hlt' : i < I.length := by omega
    have hg : ∀ h, ((I.take i).map (setp p) ++ I.drop i)[i]'h = I[i] := fun h => by
      rw [List.getElem_append_right (by simp; omega)]
      simp [List.length_take, Nat.min_eq_left (Nat.le_of_lt hlt')]
    have hll : ((I.take i).map (setp p) ++ I.drop i).length = I.length := by simp; omega
    have hs1 := hsb i (by omega)
    have hs3 := hsb (i + 1) (by omega)
    have hs2 : sumN (I.take (i + 1)) = sumN (I.take i) + I[i].n := by rw [List.take_succ_eq_append_getElem hlt', sumN_app]; simp [sumN]
    refine rw_fld (n := i) (j := 1) (v := .int .i64 I[i].n) d (.h _) pc_len (by omega) (by rw [hg]; rfl) ?_
    repeat (simp +decide only [SEM])
    refine rw_stf (S := (I.take i).map (setp p) ++ I.drop i) (f := pc) (o := 4) (m := 1) (v := .int .i64 p) d (by omega) (setp p I[i]) (.h _) pc_len rfl (by omega) (ones rfl) (by rw [hg]; rfl) fun w d => ?_
    repeat (simp +decide only [SEM])
    rw [w64 (by omega) (by omega), w64 (by omega) (by omega)]
    refine ⟨⟨i + 1, by rw [hs2]; simp, by omega, ?_⟩, by omega⟩
    have e : ((I.take i).map (setp p) ++ I.drop i).set i (setp p I[i]) = (I.take (i + 1)).map (setp p) ++ I.drop (i + 1) := by
      rw [List.set_append_right _ _ (by simp; omega), List.take_succ_eq_append_getElem hlt', List.map_append]
      simp [List.length_take, Nat.min_eq_left (Nat.le_of_lt hlt')]
      rw [List.drop_eq_getElem_cons hlt']
      rfl
    rw [e] at d
    exact d
  · have hi' : i = I.length := by omega
    subst hi'
    rw [List.take_length, List.drop_length, List.append_nil, List.length_map] at d
    have hs1 := hsb I.length (Nat.le_refl _)
    rw [List.take_length] at hs1 ⊢
    skip
    refine ⟨fun h => k1 _ (by decide) (.inr (.inr (.inl h))) w d.tail.tail, fun _ => ?_⟩
    obtain ⟨-, v, d⟩ := Rg.out (D.sel [2, 0, 1] d)
    repeat (first | (simp +decide only [SEM]) | (apply ldm d; (focus ((repeat (first | exact .h _ | refine .t _ _ ?_)); done)); (focus rfl)))
    rw [w64 (by omega) (by omega)]
    refine ⟨fun h => k1 _ (by decide) (.inr (.inr (.inr h))) w (D.sel [1, 2, 0] (Rg.mk ok d)).tail.tail, fun hroom => ?_⟩
    have d := D.sel [3, 2, 0, 1] d
    obtain ⟨J, hJ⟩ : ∃ J, J = I.map (setp p) := ⟨_, rfl⟩
    have hJl : J.length = I.length := by rw [hJ, List.length_map]
    rw [← hJ, ← hJl] at d
    rw [← hJl]
    refine d_appm (m := J.length) (news := J.flatMap pc) d (src_rw d.tail pcs_one) rfl (by omega) (by omega) pcs_one fun v' w d => ?_
    rw [← List.flatMap_append, ← List.length_append] at d
    refine fn10 (fun _ _ => rfl) (V.slices_Values_Piece_Piece_ok ?_)
    unfold V.slices_Values_Piece_Piece
    obtain ⟨q5, c5, rfl, -⟩ := Rw.shape d.1
    simp only [cells_sl]
    refine d_new _ d fun bn w d => ?_
    generalize bn = bv at d ⊢
    refine fn20 (fun _ _ => rfl) (V.slices_SortedFunc_Piece_ok ?_)
    unfold V.slices_SortedFunc_Piece
    refine fn10 (fun _ _ => rfl) (V.slices_Collect_Piece_ok ?_)
    unfold V.slices_Collect_Piece
    refine fn20 (fun _ _ => rfl) (AppSeqP_ok (by rw [List.length_append]; omega) d fun lv w d => ?_)
    refine fn20 (fun _ _ => rfl) (SortP_ok (by rw [List.length_append]; omega) d fun P w hp hs d => ?_)
    rw [hJ, ← hgO, ← hgI] at hp
    obtain ⟨q6, c6, rfl, -⟩ := Rw.shape d.1
    repeat (first | (simp +decide only [SEM]) | (apply stm d; (focus ((repeat (first | exact .h _ | apply Rp.t)); done)); (focus rfl); (focus simp); (focus exact ones rfl); intro w d; simp only [SPL] at d))
    refine k2 h1 (by omega) P w (by rw [← hgO, ← hgI]; exact hp) ?_
    exact (D.sel [1, 2, 0] (Rg.mk (prot_rok ok ⟨hc.1, hc.2.1, hm2.1, hm2.2⟩ (by omega) (by rw [hgO, hgI]; omega) hp hs) (D.sel [2, 0] d))).tail.tail
end
end Go.Proofs.Ytgkbbihaaichbaa.Reg

set_option maxRecDepth 100000
set_option maxHeartbeats 4000000
namespace Go.Proofs.Ytgkbbihaaichbaa.Reg
open Go Go.Jac
section
variable {w0 w : World} {L : List HP} {K : Value → WP} {b : Nat} {size most : Int} {S : List Pc}
theorem sumN_bd {B : Int} : ∀ l : List Pc, (∀ x ∈ l, 0 ≤ x.n ∧ x.n ≤ B) → 0 ≤ B → 0 ≤ sumN l ∧ sumN l ≤ l.length * B
  | [], _, _ => by simp [sumN]
  | x :: r, h, hB => by
    have h1 := sumN_bd r (fun y hy => h y (List.mem_cons_of_mem _ hy)) hB
    have h2 := h x List.mem_cons_self
    rw [sumN_cons, List.length_cons, Int.natCast_succ, Int.add_mul, Int.one_mul]
    omega
theorem inP_n {at_ m : Int} {x : Pc} (hx : 0 ≤ x.a ∧ 0 < x.n) (y : Pc) (hy : y ∈ inP at_ m x) : 0 ≤ y.n ∧ y.n ≤ x.n := by
  unfold inP at hy
  split at hy
  · rename_i ho
    unfold ovB at ho
    have ho := of_decide_eq_true ho
    rw [List.mem_singleton.1 hy]
    unfold part
    simp only
    omega
  · cases hy
theorem Span_ok {at_ m : Int} (hI : I64 at_) (hm : I64 m) (d : D w0 (Rg b size most S :: L) w)
    (k0 : ∀ e w', e ≠ 0 → (at_ < 0 ∨ m < 0 ∨ size < at_ + m ∨ sumN (S.flatMap (inP at_ m)) ≠ m) → D w0 (Rg b size most S :: L) w' → K (.tuple #[.slice none 0 0, .int .i64 e]) w')
    (k1 : 0 ≤ at_ → 0 ≤ m → at_ + m ≤ size → sumN (S.flatMap (inP at_ m)) = m → ∀ lv w', D w0 (Rw 72 5 lv (S.flatMap (inP at_ m)).length ((S.flatMap (inP at_ m)).flatMap pc) :: Rg b size most S :: L) w' → K (.tuple #[lv, .int .i64 0]) w') :
    Cl pg 51 #[.pointer (some ⟨b, 0, none⟩), .int .i64 at_, .int .i64 m] K w := by
  refine V.region_Region_Span_ok ?_
  unfold V.region_Region_Span
  obtain ⟨ok, v, d⟩ := Rg.out d
  obtain ⟨q, c, rfl, -⟩ := Rw.shape d.swap.1
  have hl := ok.len
  have hmo := ok.mo
  have hsz := ok.sz
  simp only [cells_int]
  refine d_new _ d fun bn w d => ?_
  generalize bn = c4 at d ⊢
  refine d_new _ d fun bn w d => ?_
  generalize bn = c5 at d ⊢
  have no : ∀ e w, e ≠ 0 → (at_ < 0 ∨ m < 0 ∨ size < at_ + m ∨ sumN (S.flatMap (inP at_ m)) ≠ m) → D w0 (cel c5 3 [.int .i64 m] :: cel c4 3 [.int .i64 at_] :: cel b 92 [.int .i64 size, .int .i64 most, .slice q S.length c] :: Rw 72 5 (.slice q S.length c) S.length (S.flatMap pc) :: L) w → K (.tuple #[.slice none 0 0, .int .i64 e]) w := fun e w he hh d => k0 e w he hh (Rg.mk ok d.tail.tail)
  repeat (first | (simp +decide only [SEM]) | (apply ldm d; (focus ((repeat (first | exact .h _ | refine .t _ _ ?_)); done)); (focus rfl)))
  refine ⟨fun h1 => ?_, fun h1 => no _ w (by decide) (.inl h1) d⟩
  repeat (first | (simp +decide only [SEM]) | (apply ldm d; (focus ((repeat (first | exact .h _ | refine .t _ _ ?_)); done)); (focus rfl)))
  refine ⟨fun h2 => no _ w (by decide) (.inr (.inl h2)) d, fun h2 => ?_⟩
  repeat (first | refine drw d fun w d => ?_ | refine qt d ?_ | refine qe_nil ?_ | (apply qlm; (focus ((repeat (first | exact .h _ | refine .t _ _ ?_)); done)); (focus rfl)))
  refine fn30 (fun _ _ => rfl) (Within_ok ⟨by omega, by omega⟩ ?_)
  cases hw : decide (0 ≤ at_ ∧ 0 ≤ m ∧ at_ ≤ size ∧ m ≤ size - at_) with
  | false =>
    have hw := of_decide_eq_false hw
    repeat (simp +decide only [SEM])
    exact no _ w (by decide) (.inr (.inr (.inl (by omega)))) d
  | true =>
  have hw := of_decide_eq_true hw
  simp +decide only [SEM]
  refine d_new _ d fun c8 w d => ?_
  refine d_new _ d fun c9 w d => ?_
  repeat (first | (apply ldm d; (focus ((repeat (first | exact .h _ | refine .t _ _ ?_)); done)); (focus rfl)) | (apply swm d; (focus ((repeat (first | exact .h _ | apply Rp.t)); done)); (focus rfl); (focus rfl); (focus exact ones rfl); intro w d; simp only [SPL] at d))
  refine fn30 (fun _ _ => rfl) (V.region_Region_over_ok ?_)
  unfold V.region_Region_over
  simp only [cells_ptr, cells_int]
  refine d_new _ d fun b1 w d => ?_
  refine d_new _ d fun b2 w d => ?_
  refine d_new _ d fun b3 w d => ?_
  refine d_rf0 (fun _ _ => rfl) d fun dm l r0 w hr hp hro d => ?_
  show Cl pg 72 #[.func (.yield l) #[] #[], .pointer (some ⟨b1, 0, none⟩), .pointer (some ⟨b2, 0, none⟩), .pointer (some ⟨b3, 0, none⟩)] _ w
  refine V.region_Region_over_c1_ok ?_
  unfold V.region_Region_over_c1
  have d0 : D w0 (Rw 72 5 (.slice none 0 0) (List.length ([] : List Pc)) (([] : List Pc).flatMap pc) :: _) w := ⟨Rw.nil _ _ d.1, d.2⟩
  have d := D.sel [1, 2, 3, 4, 5, 6, 7, 8, 9, 10, 11, 0] d0
  clear d0
  repeat (first | (simp +decide only [SEM]) | (apply ldm d; (focus ((repeat (first | exact .h _ | refine .t _ _ ?_)); done)); (focus rfl)))
  refine ⟨fun vs w' => ∃ (i : Nat) (ov : Value), vs = [.int .i64 i] ∧ i ≤ S.length ∧ D w0 (pts l (.loop r0) :: pts dm (.deferred (some [])) :: cel b3 3 [.int .i64 m] :: cel b2 3 [.int .i64 at_] :: cel b1 61 [.pointer (some ⟨b, 0, none⟩)] :: cel c9 3 [.int .i64 (sumN ((S.take i).flatMap (inP at_ m)))] :: cel c8 33 [ov] :: cel c5 3 [.int .i64 m] :: cel c4 3 [.int .i64 at_] :: cel b 92 [.int .i64 size, .int .i64 most, .slice q S.length c] :: Rw 72 5 (.slice q S.length c) S.length (S.flatMap pc) :: Rw 72 5 ov ((S.take i).flatMap (inP at_ m)).length (((S.take i).flatMap (inP at_ m)).flatMap pc) :: L) w',
    fun vs _ => match vs with | [.int _ i] => S.length - i.toNat | _ => 0, ⟨0, _, rfl, by omega, d⟩, ?_⟩
  clear d
  rintro _ w ⟨i, ov, rfl, hi, d⟩ _
  simp only [UN]
  repeat (simp +decide only [SEM])
  refine ⟨fun hlt => ?_, fun hge => ?_⟩
  · have hlt' : i < S.length := by omega
    have hp5 := ok.all _ (List.getElem_mem hlt')
    have g1 := hp5.n0
    have g2 := hp5.en
    have g3 := hp5.a0
    have g4 := hp5.f0
    have g5 := hp5.fa
    have hil := ins_len at_ m (S.take i)
    rw [List.length_take] at hil
    have hts := List.take_succ_eq_append_getElem hlt'
    have hfi : (S.take (i + 1)).flatMap (inP at_ m) = (S.take i).flatMap (inP at_ m) ++ inP at_ m S[i] := by rw [hts, List.flatMap_append, List.flatMap_singleton]
    have hsm : 0 ≤ sumN ((S.take i).flatMap (inP at_ m)) ∧ sumN ((S.take i).flatMap (inP at_ m)) ≤ 65536 * 4294967296 := by
      have h1 := sumN_bd (B := 4294967296) ((S.take i).flatMap (inP at_ m)) (fun y hy => by
        obtain ⟨x, hx, hy⟩ := List.mem_flatMap.1 hy
        have hpx := ok.all x (List.mem_of_mem_take hx)
        have h2 := inP_n ⟨hpx.a0, hpx.n0⟩ y hy
        have h3 := hpx.en
        have h4 := hpx.a0
        omega) (by omega)
      have h2 : ((S.take i).flatMap (inP at_ m)).length ≤ 65536 := by omega
      have h3 : (((S.take i).flatMap (inP at_ m)).length : Int) * 4294967296 ≤ 65536 * 4294967296 := Int.mul_le_mul_of_nonneg_right (by omega) (by omega)
      omega
    refine rw_elN d (.t _ _ (.t _ _ (.t _ _ (.t _ _ (.t _ _ (.t _ _ (.t _ _ (.t _ _ (.t _ _ (.t _ _ (.h _))))))))))) pc_len hlt' ?_
    have hw1 : IntKind.i64.wrap ((i : Int) + 1) = i + 1 := w64 (by omega) (by omega)
    generalize hO : (S.take i).flatMap (inP at_ m) = O at *
    generalize hx : S[i] = x at *
    have hpx : pc x = [.int .i64 x.a, .int .i64 x.n, .int .i64 x.v, .int .i64 x.f, .int .i64 x.p] := rfl
    rw [hpx]
    refine d_new _ d fun bx w d => ?_
    repeat (first | (simp +decide only [SEM]) | (apply ldm d; (focus ((repeat (first | exact .h _ | refine .t _ _ ?_)); done)); (focus rfl)) | (apply swm d; (focus ((repeat (first | exact .h _ | apply Rp.t)); done)); (focus rfl); (focus rfl); (focus exact ones rfl); intro w d; simp only [SPL] at d))
    refine fn40 (fun _ _ => rfl) (Overlap_ok ⟨by omega, by omega⟩ hI ⟨by omega, by omega⟩ hm (by omega) (by omega) ?_)
    repeat (simp +decide only [SEM])
    refine ⟨fun ho => ?_, fun ho => ?_⟩
    · have ei : inP at_ m x = [part x at_ (at_ + m)] := by unfold inP; rw [ho]; rfl
      have hpy : pc (part x at_ (at_ + m)) = [.int .i64 (part x at_ (at_ + m)).a, .int .i64 (part x at_ (at_ + m)).n, .int .i64 (part x at_ (at_ + m)).v, .int .i64 (part x at_ (at_ + m)).f, .int .i64 (part x at_ (at_ + m)).p] := rfl
      have hyn := inP_n (at_ := at_) (m := m) (x := x) ⟨g3, g1⟩ (part x at_ (at_ + m)) (by rw [ei]; exact List.mem_singleton.2 rfl)
      repeat (apply lam d; (focus ((repeat (first | exact .h _ | refine .t _ _ ?_)); done)); (focus rfl))
      refine y_ok (args := [.int .i64 i, .agg (pc x).toArray]) hro (D.sel [1] d) ?_
      simp only [UN, UNe]
      rw [hpx]
      refine d_new _ d fun b7 w d => ?_
      repeat (apply swm d; (focus ((repeat (first | exact .h _ | apply Rp.t)); done)); (focus rfl); (focus rfl); (focus exact ones rfl); intro w d; simp only [SPL] at d)
      refine d_beg (D.sel [2] d) hr fun w d => ?_
      repeat (first | refine drw d fun w d => ?_ | refine qt d ?_ | (apply qlm; (focus ((repeat (first | exact .h _ | refine .t _ _ ?_)); done)); (focus rfl)) | (apply qam; (focus ((repeat (first | exact .h _ | refine .t _ _ ?_)); done)); (focus rfl)) | refine qe_op (fun _ _ => BinI_add) ?_)
      have e2 : IntKind.i64.wrap (at_ + m) = at_ + m := w64 (by omega) (by omega)
      rw [e2]
      refine fn30 (fun _ _ => rfl) (part_ok (x := x) ⟨by omega, by omega, by omega, by omega, by omega, by omega⟩ (by omega) (by omega) d fun w d => ?_)
      generalize part x at_ (at_ + m) = y at *
      rw [hpy]
      repeat (first | refine bsl1 (by first | rfl | (simp only [cells_agg, cells_int, cells_bool, cells_ptr, cells_sl, cells_map, cells_fn, List.drop_succ_cons, List.drop_zero, List.take_succ_cons, List.take_zero, Nat.zero_add, Nat.reduceAdd, Int.toNat_natCast, Int.toNat_zero]; rfl)) rfl d (by decide) (by decide) fun bn w d => ?_ | refine ch d ?_ | refine ch (D.tail d) ?_)
      generalize bn = b8 at d ⊢
      refine d_app (m := 1) (D.sel [14] d) (src_of (gc1 (D.sel [14] d)) rfl (ones rfl) 1) rfl (by omega) (by omega) (by omega) (ones rfl) fun sv' w d => ?_
      have e4 : (O ++ [y]).flatMap pc = O.flatMap pc ++ [.int .i64 y.a, .int .i64 y.n, .int .i64 y.v, .int .i64 y.f, .int .i64 y.p] := by rw [List.flatMap_append, List.flatMap_singleton]; rfl
      have e5 : (O ++ [y]).length = O.length + 1 := by simp
      have d : D w0 (Rw 72 5 sv' (O ++ [y]).length ((O ++ [y]).flatMap pc) :: pts l (.loop { r0 with state := .busy }) :: pts dm (.deferred (some [])) :: cel b3 3 [.int .i64 m] :: cel b2 3 [.int .i64 at_] :: cel b1 61 [.pointer (some ⟨b, 0, none⟩)] :: cel c9 3 [.int .i64 (sumN O)] :: cel c8 33 [ov] :: cel c5 3 [.int .i64 m] :: cel c4 3 [.int .i64 at_] :: cel b 92 [.int .i64 size, .int .i64 most, .slice q S.length c] :: Rw 72 5 (.slice q S.length c) S.length (S.flatMap pc) :: L) w := by
        rw [e4, e5]; exact (D.sel [1, 3, 4] d).tail.tail.tail
      obtain ⟨bb, cap, junk, e, -, -, -⟩ := Rw.block d.1 (by omega)
      rw [e] at d ⊢
      have e6 : IntKind.i64.wrap (((O ++ [y]).length : Int) - 1) = ((O.length : Nat) : Int) := by rw [e5, w64 (by omega) (by omega)]; omega
      repeat (first | refine drw d fun w d => ?_ | refine qt d ?_ | refine qe_len ?_ | (apply qlm; (focus ((repeat (first | exact .h _ | refine .t _ _ ?_)); done)); (focus rfl)) | refine qe_op (fun _ _ => BinI_sub) ?_ | (apply swm d; (focus ((repeat (first | exact .h _ | apply Rp.t)); done)); (focus rfl); (focus rfl); (focus exact ones rfl); intro w d; simp only [SPL] at d))
      rw [e6]
      have hlt2 : O.length < (O ++ [y]).length := by omega
      have hg : (O ++ [y])[O.length]'hlt2 = y := by simp
      refine qia (n := O.length) hlt2 ?_
      repeat (first | (simp +decide only [SEM]) | refine qe_nil ?_ | (focus (apply ql1; (focus ((repeat (first | exact .h _ | refine .t _ _ ?_)); done)); (focus exact fun _ => rfl); (focus rfl); rotate_left; (focus (first | omega | (simp; done) | (simp; omega))))) | (apply swm d; (focus ((repeat (first | exact .h _ | apply Rp.t)); done)); (focus rfl); (focus rfl); (focus exact ones rfl); intro w d; simp only [SPL] at d))
      refine d_end0 (D.sel [1] d) fun w d => ?_
      rw [loop_eta hr hp] at d
      repeat (simp +decide only [SEM])
      rw [hw1]
      refine ⟨⟨i + 1, .slice (some ⟨bb, 0, none⟩) (O ++ [y]).length cap, by simp, by omega, ?_⟩, by omega⟩
      have e7 : sumN (O ++ [y]) = IntKind.i64.wrap (sumN O + ((O ++ [y])[O.length]'hlt2).n) := by
        rw [hg, sumN_app, sumN_cons, w64 (by omega) (by omega)]; simp [sumN]
      rw [hfi, ei, e7]
      exact D.sel [0, 2, 3, 4, 5, 6, 7, 8, 9, 10, 11, 1] d
    · have ei : inP at_ m x = [] := by unfold inP; rw [ho]; rfl
      skip
      rw [hw1]
      refine ⟨⟨i + 1, ov, by simp, by omega, ?_⟩, by omega⟩
      rw [hfi, ei, List.append_nil]
      exact d.tail
  · rw [List.take_of_length_le (by omega)] at d
    refine ⟨r0, _, d, sameLp.refl r0, by rw [hr]; simp, fun w d => ?_⟩
    rw [hp]
    simp only [JumpC]
    repeat (first | (simp +decide only [SEM]) | (apply ldm d; (focus ((repeat (first | exact .h _ | refine .t _ _ ?_)); done)); (focus rfl)))
    refine ⟨fun hne => ?_, fun he => ?_⟩
    · refine d_lv1 d fun w d => ?_
      exact no _ w (by decide) (.inr (.inr (.inr hne))) (D.sel [0, 1, 2, 3, 4, 9] d).tail.tail.tail.tail.tail.tail
    · repeat (apply ldm d; (focus ((repeat (first | exact .h _ | refine .t _ _ ?_)); done)); (focus rfl))
      refine d_lv1 d fun w d => ?_
      exact k1 (by omega) (by omega) (by omega) he ov w (Rg.mk ok d.tail.tail.tail.tail.tail.tail.tail).swap
end
end Go.Proofs.Ytgkbbihaaichbaa.Reg
