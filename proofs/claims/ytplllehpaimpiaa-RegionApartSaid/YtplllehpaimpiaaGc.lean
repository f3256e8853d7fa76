/- Regions: one piece more. -/
import Derived.Test.YtplllehpaimpiaaGb
import Derived.Laws.Externs
set_option maxRecDepth 100000
set_option maxHeartbeats 8000000
namespace Go.Proofs.Ytplllehpaimpiaa
open Go Go.Jac
def cmpI (a b : Int) : Int := if a < b then -1 else if b < a then 1 else 0
theorem ovl (a b : Addr) (la ca lb cb : Nat) (w : World) (h : (Extern.SlicesOverlaps.overlaps #[22, 22] #[4] #[.slice (some a) la ca, .slice (some b) lb cb]).run pg w = .ok (.bool false) w) :
    (callFunc 35 #[.slice (some a) la ca, .slice (some b) lb cb]).run pg w = .ok (.value (.bool false)) w := by
  rw [run_callFunc_extern Try.func35 (by kernel_rfl) (by kernel_rfl) (by kernel_rfl) (e := Extern.SlicesOverlaps.overlaps #[22, 22] #[4]) (by kernel_rfl), h]
  rfl
/-- Whether a piece can be put, and what is told. -/
def putSt (size most : Int) (S : List Pc) (x : Pc) : Int :=
  if ¬ (pgB x.a && pgB x.n && pgB x.f) = true ∨ x.n = 0 ∨ 4294967296 < x.f ∨ (x.p < 0 ∨ 3 < x.p) then -10
  else if ¬ (0 ≤ x.a ∧ 0 ≤ x.n ∧ x.a ≤ size ∧ x.n ≤ size - x.a) then -14
  else if ∃ y ∈ S, ovB y.a y.n x.a x.n = true then -26
  else if most ≤ S.length then -4 else 0
structure PutOk (size most : Int) (S : List Pc) (x : Pc) : Prop where
  am : x.a % 64 = 0
  nm : x.n % 64 = 0
  fm : x.f % 64 = 0
  a0 : 0 ≤ x.a
  n0 : 0 < x.n
  en : x.a + x.n ≤ size
  f0 : 0 ≤ x.f ∧ x.f ≤ 4294967296
  pr : 0 ≤ x.p ∧ x.p ≤ 3
  no : ∀ y ∈ S, ovB y.a y.n x.a x.n = false
  len : S.length < most
theorem put0 {size most : Int} {S : List Pc} {x : Pc} : putSt size most S x = 0 ↔ PutOk size most S x := by
  unfold putSt pgB
  constructor
  · intro h
    split at h
    · omega
    · rename_i h1
      split at h
      · omega
      · rename_i h2
        split at h
        · omega
        · rename_i h3
          split at h
          · omega
          · rename_i h4
            simp only [Bool.and_eq_true, decide_eq_true_eq, not_or] at h1
            refine ⟨by omega, by omega, by omega, by omega, by omega, by omega, by omega, by omega, fun y hy => ?_, by omega⟩
            cases ho : ovB y.a y.n x.a x.n with
            | false => rfl
            | true => exact absurd ⟨y, hy, ho⟩ h3
  · intro h
    have := h.am; have := h.nm; have := h.fm; have := h.a0; have := h.n0; have := h.en; have := h.f0; have := h.pr; have := h.len
    rw [if_neg (by simp only [Bool.and_eq_true, decide_eq_true_eq, not_or]; omega), if_neg (by omega), if_neg (fun ⟨y, hy, ho⟩ => by rw [h.no y hy] at ho; cases ho), if_neg (by omega)]
/-- Where it goes. -/
def pos (S : List Pc) (a : Int) : Nat := S.findIdx fun y => decide (a ≤ y.a)
def insP (S : List Pc) (x : Pc) : List Pc := S.take (pos S x.a) ++ x :: S.drop (pos S x.a)
theorem pos_le (S : List Pc) (a : Int) : pos S a ≤ S.length := List.findIdx_le_length
theorem pos_of {S : List Pc} {a : Int} {i : Nat} (hi : i ≤ S.length) (h1 : ∀ k (h : k < S.length), k < i → S[k].a < a) (h2 : ∀ k (h : k < S.length), i ≤ k → a ≤ S[k].a) : pos S a = i := by
  unfold pos
  rcases Nat.lt_or_eq_of_le hi with h | h
  · rw [List.findIdx_eq h]
    exact ⟨by simpa using h2 i h (Nat.le_refl _), fun j hj => by simpa using h1 j (by omega) hj⟩
  · subst h
    rw [List.findIdx_eq_length]
    intro y hy
    obtain ⟨k, hk, rfl⟩ := List.getElem_of_mem hy
    have := h1 k hk hk
    simp; omega
theorem ov_apart {y x : Pc} (hy : 0 ≤ y.a ∧ 0 < y.n) (hx : 0 ≤ x.a ∧ 0 < x.n) (h : ovB y.a y.n x.a x.n = false) : y.a + y.n ≤ x.a ∨ x.a + x.n ≤ y.a := by
  unfold ovB at h
  have := of_decide_eq_false h
  omega
theorem up_a {size most : Int} {S : List Pc} (h : Rok size most S) {i j : Nat} (hi : i < S.length) (hj : j < S.length) (hij : i < j) : S[i].a + S[i].n ≤ S[j].a := List.pairwise_iff_getElem.1 h.up i j hi hj hij
theorem ins_rok {size most : Int} {S : List Pc} {x : Pc} (h : Rok size most S) (g : PutOk size most S x) : Rok size most (insP S x) := by
  have hpl := pos_le S x.a
  have hb : ∀ y ∈ S.take (pos S x.a), y.a + y.n ≤ x.a := fun y hy => by
    obtain ⟨k, hk, rfl⟩ := List.getElem_of_mem hy
    rw [List.length_take] at hk
    rw [List.getElem_take]
    have hkl : k < S.length := by omega
    have hp := h.all _ (List.getElem_mem hkl)
    have h1 : ¬ x.a ≤ S[k].a := of_decide_eq_false (List.not_of_lt_findIdx (p := fun y : Pc => decide (x.a ≤ y.a)) (xs := S) (i := k) (by unfold pos at hk; omega))
    have := g.n0
    rcases ov_apart ⟨hp.a0, hp.n0⟩ ⟨g.a0, g.n0⟩ (g.no _ (List.getElem_mem hkl)) with h2 | h2
    · exact h2
    · omega
  have ha : ∀ y ∈ S.drop (pos S x.a), x.a + x.n ≤ y.a := fun y hy => by
    obtain ⟨k, hk, rfl⟩ := List.getElem_of_mem hy
    rw [List.length_drop] at hk
    rw [List.getElem_drop]
    have hkl : pos S x.a + k < S.length := by omega
    have hp := h.all _ (List.getElem_mem hkl)
    have h1 : x.a ≤ S[pos S x.a + k].a := by
      have h0 : x.a ≤ S[pos S x.a].a := by
        have := List.findIdx_getElem (p := fun y : Pc => decide (x.a ≤ y.a)) (xs := S) (w := by unfold pos at hkl; omega)
        simpa [pos] using this
      rcases Nat.eq_zero_or_pos k with hk0 | hk0
      · subst hk0; exact h0
      · have h2 := up_a h (i := pos S x.a) (j := pos S x.a + k) (by omega) hkl (by omega)
        have h3 := (h.all _ (List.getElem_mem (show pos S x.a < S.length by omega))).n0
        omega
    have := hp.n0
    rcases ov_apart ⟨hp.a0, hp.n0⟩ ⟨g.a0, g.n0⟩ (g.no _ (List.getElem_mem hkl)) with h2 | h2
    · omega
    · exact h2
  refine ⟨h.sz, h.mo, fun y hy => ?_, ?_, ?_⟩
  · rcases List.mem_append.1 hy with hy | hy
    · exact h.all y (List.mem_of_mem_take hy)
    · rcases List.mem_cons.1 hy with rfl | hy
      · exact ⟨g.a0, g.n0, g.am, g.nm, g.en, g.f0.1, g.fm, by have := g.f0.2; have := g.a0; omega, g.pr⟩
      · exact h.all y (List.mem_of_mem_drop hy)
  · unfold insP
    rw [List.pairwise_append]
    refine ⟨h.up.sublist (List.take_sublist _ _), List.pairwise_cons.2 ⟨ha, h.up.sublist (List.drop_sublist _ _)⟩, fun y hy z hz => ?_⟩
    rcases List.mem_cons.1 hz with rfl | hz
    · exact hb y hy
    · have := hb y hy
      have := ha z hz
      have := g.n0
      omega
  · unfold insP
    rw [List.length_append, List.length_cons, List.length_take, List.length_drop]
    have := g.len
    omega
theorem ins_perm {S : List Pc} {x : Pc} : (insP S x).Perm (x :: S) := by
  unfold insP
  refine List.perm_middle.trans (List.Perm.cons x ?_)
  rw [List.take_append_drop]
section
variable {w0 w : World} {L : List HP} {K : Value → WP} {b n : Nat} {size most : Int} {sv lv v : Value} {x : Pc} {S : List Pc}
theorem Compare_ok {x y : Int} (k : K (.int .i64 (cmpI x y)) w) : Cl pg 21 #[.int .i64 x, .int .i64 y] K w := by
  refine V.cmp_Compare_int_ok ?_
  unfold V.cmp_Compare_int
  have nan : ∀ (x : Int) (K : Value → WP), K (.bool false) w → FnV pg (.func (.func 34) #[] #[]) #[.int .i64 x] K w := by
    intro x K k
    refine fn10 (fun _ _ => rfl) (V.cmp_isNaN_int_ok ?_)
    unfold V.cmp_isNaN_int
    repeat (simp +decide only [SEM])
    exact k
  refine nan _ _ (nan _ _ ?_)
  unfold cmpI at k
  repeat (simp +decide only [SEM])
  refine ⟨fun h => ?_, fun h => ⟨fun h2 => ?_, fun h2 => ?_⟩⟩
  · rw [if_pos h] at k; exact k
  · rw [if_neg h, if_pos h2] at k; exact k
  · rw [if_neg h, if_neg h2] at k; exact k
theorem putc_ok {t : Int} (d : D w0 L w) (k : ∀ w', D w0 L w' → K (.int .i64 (cmpI x.a t)) w') : FnV pg (.func (.func 20) #[] #[]) #[.agg (pc x).toArray, .int .i64 t] K w := by
  refine fn20 (fun _ _ => rfl) (V.region_Region_Put_c1_ok ?_)
  unfold V.region_Region_Put_c1
  simp only [cells_agg]
  have hpx : pc x = [.int .i64 x.a, .int .i64 x.n, .int .i64 x.v, .int .i64 x.f, .int .i64 x.p] := rfl
  rw [hpx]
  repeat (first | (simp +decide only [SEM]) | (apply ldm d; (focus ((repeat (first | exact .h _ | refine .t _ _ ?_)); done)); (focus rfl)) | (refine d_new _ d fun bn w d => ?_))
  refine fn20 (fun _ _ => rfl) (Compare_ok ?_)
  exact k _ d.tail
theorem half {i j : Nat} (h : i + j ≤ 1000000) : IntKind.i64.wrap ((IntKind.u64.wrap (IntKind.i64.wrap ((i : Int) + (j : Int)))).fdiv (2 ^ (1 : Int).toNat)) = (((i + j) / 2 : Nat) : Int) := by
  have h0 : IntKind.i64.wrap ((i : Int) + (j : Int)) = (i : Int) + (j : Int) := w64 (by omega) (by omega)
  have h1 : IntKind.u64.wrap ((i : Int) + (j : Int)) = (i : Int) + (j : Int) := by
    unfold IntKind.wrap
    simp [IntKind.signed, IntKind.bits]
    omega
  rw [h0, h1]
  have h2 : ((i : Int) + (j : Int)).fdiv (2 ^ (1 : Int).toNat) = (((i + j) / 2 : Nat) : Int) := by
    rw [Int.fdiv_eq_ediv_of_nonneg _ (by decide)]
    have : (2 : Int) ^ (1 : Int).toNat = 2 := by decide
    rw [this]
    omega
  rw [h2, w64 (by omega) (by omega)]
theorem bins_ok {t : Int} (ok : Rok size most S) (d : D w0 (Rw 27 5 sv S.length (S.flatMap pc) :: L) w) (k : ∀ r w', D w0 (Rw 27 5 sv S.length (S.flatMap pc) :: L) w' → K (.tuple #[.int .i64 (pos S t), .bool r]) w') :
    Cl pg 19 #[sv, .int .i64 t, .func (.func 20) #[] #[]] K w := by
  refine V.slices_BinarySearchFunc_Piece_Piece_int_ok ?_
  unfold V.slices_BinarySearchFunc_Piece_Piece_int
  obtain ⟨q, c, rfl, -⟩ := Rw.shape d.1
  have hl := ok.len
  have hmo := ok.mo
  repeat (simp +decide only [SEM])
  refine ⟨fun vs w' => ∃ (i j : Nat), vs = [.int .i64 i, .int .i64 j] ∧ i ≤ j ∧ j ≤ S.length ∧ (∀ k (h : k < S.length), k < i → S[k].a < t) ∧ (∀ k (h : k < S.length), j ≤ k → t ≤ S[k].a) ∧ D w0 (Rw 27 5 (.slice q S.length c) S.length (S.flatMap pc) :: L) w', fun vs _ => match vs with | [.int _ i, .int _ j] => j.toNat - i.toNat | _ => 0, ⟨0, S.length, rfl, by omega, by omega, fun k _ h => by omega, fun k h h2 => by omega, d⟩, ?_⟩
  clear d
  rintro _ w ⟨i, j, rfl, hij, hj, h1, h2, d⟩ _
  simp only [UN]
  repeat (simp +decide only [SEM])
  refine ⟨fun hlt => ?_, fun hge => ?_⟩
  · have hlt' : i < j := by omega
    have hh := half (i := i) (j := j) (by omega)
    rw [hh]
    have hm : (i + j) / 2 < S.length := by omega
    refine rw_elN d (.h _) pc_len hm ?_
    refine putc_ok d fun w d => ?_
    unfold cmpI
    repeat (simp +decide only [SEM])
    have mono : ∀ a b (ha : a < S.length) (hb : b < S.length), a ≤ b → S[a].a ≤ S[b].a := fun a b ha hb hab => by
      rcases Nat.lt_or_eq_of_le hab with h | h
      · have := up_a ok ha hb h
        have := (ok.all _ (List.getElem_mem ha)).n0
        omega
      · subst h; exact Int.le_refl _
    refine ⟨fun hc => ?_, fun hc => ?_⟩
    · have hlt2 : S[(i + j) / 2].a < t := by
        split at hc
        · assumption
        · split at hc <;> omega
      rw [w64 (by omega) (by omega)]
      refine ⟨⟨(i + j) / 2 + 1, j, by simp, by omega, hj, fun k hk hki => ?_, h2, d⟩, by omega⟩
      have := mono k ((i + j) / 2) hk hm (by omega)
      omega
    · have hge2 : t ≤ S[(i + j) / 2].a := by
        split at hc
        · omega
        · omega
      refine ⟨⟨i, (i + j) / 2, rfl, by omega, by omega, h1, fun k hk hki => ?_, d⟩, by omega⟩
      have := mono ((i + j) / 2) k hm hk hki
      omega
  · have e : i = j := by omega
    subst e
    have hp : pos S t = i := pos_of hj h1 h2
    rw [hp] at k
    refine ⟨fun h3 => ?_, fun h3 => k _ _ d⟩
    have hi : i < S.length := by omega
    refine rw_elN d (.h _) pc_len hi ?_
    refine putc_ok d fun w d => ?_
    repeat (simp +decide only [SEM])
    exact k _ _ d
theorem pcs_one : ∀ u ∈ S.flatMap pc, u.oneCell' = true := by
  intro u hu
  obtain ⟨x, hx, hu⟩ := List.mem_flatMap.1 hu
  exact ones (l := pc x) rfl u hu
theorem insert_ok {i bs c1 : Nat} (hi : i ≤ S.length) (hl : S.length ≤ 65536) (d : D w0 (Rw 27 5 sv S.length (S.flatMap pc) :: cel bs 27 (pc x) :: L) w)
    (k : ∀ sv' w', D w0 (Rw 27 5 sv' (S.take i ++ x :: S.drop i).length ((S.take i ++ x :: S.drop i).flatMap pc) :: cel bs 27 (pc x) :: L) w' → K sv' w') :
    Cl pg 22 #[sv, .int .i64 i, .slice (some ⟨bs, 0, none⟩) 1 c1] K w := by
  refine V.slices_Insert_Piece_Piece_ok ?_
  have ef : S.flatMap pc = (S.take i).flatMap pc ++ (S.drop i).flatMap pc := by rw [← List.flatMap_append, List.take_append_drop]
  rw [ef] at d
  obtain ⟨inf, hinf⟩ := Option.isSome_iff_exists.1 (show (pg.info? 27).isSome = true from by kernel_rfl)
  have hes : (pg.info? 27).map (·.size) = some 5 := by kernel_rfl
  have hby : (pg.info? 27).map (·.bytes) = some 40 := by kernel_rfl
  have hzz : ((pg.info? 27).bind (·.zero)).map (·.cells) = some #[.int .i64 0, .int .i64 0, .int .i64 0, .int .i64 0, .int .i64 0] := by kernel_rfl
  rw [hinf] at hes hby hzz
  simp only [Option.map_some, Option.some.injEq, Option.bind_some] at hes hby hzz
  obtain ⟨z, hiz, hz⟩ := Option.map_eq_some_iff.1 hzz
  refine gins_ok (K := K) (P := pg) (n := S.length) (i := i) (tb := 4) Try.underlying22 Try.underlying3 hinf hes hby hiz hz rfl (by decide) (fun a b la ca lb cb w h => ovl a b la ca lb cb w h) (by rw [← ef]; exact pcs_one) (ones rfl) ?_ ?_ hi (pc_len x) hl (by decide) d fun sv' w d => ?_
  · rw [flat_len pc_len, List.length_take]; congr 1; omega
  · rw [flat_len pc_len, List.length_drop]
  · have e1 : (S.take i ++ x :: S.drop i).length = S.length + 1 := by rw [List.length_append, List.length_cons, List.length_take, List.length_drop]; omega
    have e2 : (S.take i ++ x :: S.drop i).flatMap pc = (S.take i).flatMap pc ++ pc x ++ (S.drop i).flatMap pc := by rw [List.flatMap_append, List.flatMap_cons, List.append_assoc]
    refine k _ _ ?_
    rw [e1, e2]
    exact d
end
end Go.Proofs.Ytplllehpaimpiaa
