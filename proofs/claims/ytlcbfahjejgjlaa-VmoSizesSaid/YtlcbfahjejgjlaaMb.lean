/- Memory: what frames hold: reading, writing, frames of one's own. -/
import Derived.Test.YtlcbfahjejgjlaaMa
set_option maxRecDepth 100000
set_option maxHeartbeats 8000000
namespace Go.Proofs.Ytlcbfahjejgjlaa
open Go Go.Jac
/-- Bytes. -/
def bI (x : Int) : List Value := [.int .u8 x]
theorem bI_len (x : Int) : (bI x).length = 1 := rfl
theorem bI_map (l : List Int) : l.flatMap bI = l.map (Value.int .u8) := by
  induction l with
  | nil => rfl
  | cons a r ih => rw [List.flatMap_cons, ih]; rfl
theorem bI_one (l : List Int) : ∀ u ∈ l.flatMap bI, u.oneCell' = true := by
  intro u hu
  rw [bI_map] at hu
  obtain ⟨x, _, rfl⟩ := List.mem_map.1 hu
  rfl
/-- A slice that can be read as these bytes. -/
def SeesB (w : World) (sv : Value) (l : List Int) : Prop :=
  ∃ p c, sv = .slice p l.length c ∧ l.length ≤ c ∧ (l ≠ [] → ∃ a : Addr, p = some a ∧ ∀ j x, l[j]? = some x → w.cell? (a.add j) = some (.int .u8 x))
/-- A part of memory by which a slice reads so. -/
def SeesBA (w0 : World) (A : HP) (sv : Value) (l : List Int) : Prop := ∀ L w, D w0 (A :: L) w → SeesB w sv l
section
variable {w0 w : World} {L : List HP} {K : Value → WP} {b : Nat} {cap : Int} {F : List Fr} {v sv : Value} {u : Int} {A : HP} {l : List Int}
theorem sla_ok {P : Program} {t e : TypeId} {n : Nat} {p : Addr} {k1 k2 : IntKind} {lo hi : Int} {i : TypeInfo} (ht : P.underlying t = some (.array n e)) (hi' : P.info? e = some i) (hs : i.size = 1) (h0 : 0 ≤ lo) (h1 : lo ≤ hi) (h2 : hi ≤ n)
    (k : ∀ q : Addr, (lo < n → q = p.add lo.toNat) → K (.slice (some q) (hi.toNat - lo.toNat) (n - lo.toNat)) w) : Ex P (Instr.sliceAt t (.pointer (some p)) (some (.int k1 lo)) (some (.int k2 hi)) none) K w := by
  refine ⟨_, w, ?_, k (if n = lo.toNat then p else p.add (lo.toNat * i.size)) (fun h => by rw [if_neg (by omega), hs, Nat.mul_one])⟩
  have hb : (Instr.sliceBounds false n n (some (.int k1 lo)) (some (.int k2 hi)) none).run P w = .ok (lo.toNat, hi.toNat, n) w := by
    have e1 : lo ≤ max hi 0 := by omega
    have e2 : 0 ≤ hi := by omega
    simp [Instr.sliceBounds, Instr.sliceBound, asIntOf, h0, e1, e2, h2]
  simp only [Instr.sliceAt, Instr.sureAddr, Sem.run_bind, run_underlying ht, Result.andThen_ok, hb, Go.Jac.run_sizeOf hi', Sem.run_pure]
theorem sla1_ok {P : Program} {t e : TypeId} {n : Nat} {p : Addr} {k1 : IntKind} {lo : Int} {i : TypeInfo} (ht : P.underlying t = some (.array n e)) (hi' : P.info? e = some i) (hs : i.size = 1) (h0 : 0 ≤ lo) (h2 : lo ≤ n)
    (k : ∀ q : Addr, (lo < n → q = p.add lo.toNat) → K (.slice (some q) (n - lo.toNat) (n - lo.toNat)) w) : Ex P (Instr.sliceAt t (.pointer (some p)) (some (.int k1 lo)) none none) K w := by
  refine ⟨_, w, ?_, k (if n = lo.toNat then p else p.add (lo.toNat * i.size)) (fun h => by rw [if_neg (by omega), hs, Nat.mul_one])⟩
  have hb : (Instr.sliceBounds false n n (some (.int k1 lo)) none none).run P w = .ok (lo.toNat, n, n) w := by
    simp [Instr.sliceBounds, Instr.sliceBound, asIntOf, h0, h2]
  simp only [Instr.sliceAt, Instr.sureAddr, Sem.run_bind, run_underlying ht, Result.andThen_ok, hb, Go.Jac.run_sizeOf hi', Sem.run_pure]
theorem infoB : ∃ i, pg.info? 5 = some i ∧ i.size = 1 := ⟨_, rfl, rfl⟩
theorem SeesB.len (h : SeesB w sv l) (k : K (.int .i64 l.length) w) : LenS sv K w := by
  obtain ⟨p, c, rfl, _⟩ := h
  exact k
theorem SeesB.src (h : SeesB w sv l) : SrcV 1 sv l.length (l.flatMap bI) w := by
  obtain ⟨p, c, rfl, -, hx⟩ := h
  by_cases hl : l = []
  · subst hl
    cases p with
    | none => exact .nil c rfl rfl rfl
    | some a => exact .slice a c rfl rfl (fun j u hu => by simp at hu) (by simp)
  · obtain ⟨a, rfl, hcs⟩ := hx hl
    refine .slice a c rfl (by rw [bI_map, List.length_map, Nat.mul_one]) (fun j u hu => ?_) (bI_one l)
    rw [bI_map, List.getElem?_map] at hu
    cases hj : l[j]? with
    | none => rw [hj] at hu; cases hu
    | some y =>
      rw [hj] at hu
      obtain rfl := Option.some.inj hu
      exact hcs j y hj
theorem seesB_rw : SeesBA w0 (Rw 5 1 sv l.length (l.flatMap bI)) sv l := fun L w d => by
  obtain ⟨p, c, rfl, hc⟩ := Rw.shape d.1
  refine ⟨p, c, rfl, hc, fun hne => ?_⟩
  have hpos : 0 < l.length := List.length_pos_iff.2 hne
  obtain ⟨b, cap, junk, e, _, _, s⟩ := Rw.block d.1 hpos
  cases e
  refine ⟨_, rfl, fun j x hx => ?_⟩
  have hj := (List.getElem?_eq_some_iff.1 hx).1
  rw [add_of, cell_of s.get, Nat.zero_add, bI_map, List.getElem?_append_left (by simp; exact hj)]
  simp [hx]
/-- The first bytes; all but the first. -/
theorem SeesB.take (h : SeesB w sv l) {k : IntKind} {i : Nat} (hi : i ≤ l.length) (kk : ∀ sv', SeesB w sv' (l.take i) → K sv' w) : SlC 1 sv none (some (.int k i)) K w := by
  obtain ⟨p, c, rfl, hc, hx⟩ := h
  refine slc_ok 0 i ⟨_, rfl, by omega⟩ rfl rfl ?_
  refine kk _ ⟨_, _, by rw [List.length_take, Nat.min_eq_left hi, Nat.sub_zero], by rw [List.length_take]; omega, fun hne => ?_⟩
  obtain ⟨a, rfl, hxx⟩ := hx (by rintro rfl; simp at hne)
  refine ⟨a, ?_, fun j x hj => ?_⟩
  · split
    · rfl
    · simp [Addr.add_zero]
  · rw [List.getElem?_take] at hj
    split at hj
    · exact hxx j x hj
    · cases hj
theorem SeesB.drop (h : SeesB w sv l) {k : IntKind} {i : Nat} (hi : i ≤ l.length) (kk : ∀ sv', SeesB w sv' (l.drop i) → K sv' w) : SlC 1 sv (some (.int k i)) none K w := by
  obtain ⟨p, c, rfl, hc, hx⟩ := h
  refine slc_ok i l.length rfl ⟨_, rfl, hi⟩ rfl ?_
  refine kk _ ⟨_, _, by rw [List.length_drop], by rw [List.length_drop]; omega, fun hne => ?_⟩
  have hlt : i < l.length := by
    rcases Nat.lt_or_ge i l.length with h | h
    · exact h
    · rw [List.drop_eq_nil_of_le h] at hne; exact absurd rfl hne
  obtain ⟨a, rfl, hxx⟩ := hx (by rintro rfl; simp at hlt)
  refine ⟨a.add i, by rw [if_neg (by omega)]; simp, fun j x hj => ?_⟩
  rw [List.getElem?_drop] at hj
  rw [Addr.add_add]
  exact hxx _ x hj
theorem Clone_ok (hl : l.length ≤ 1000000) (d : D w0 L w) (hs : ∀ w', D w0 L w' → SeesB w' sv l) (k : ∀ sv' w', D w0 (Rw 5 1 sv' l.length (l.flatMap bI) :: L) w' → K sv' w') : Cl pg 53 #[sv] K w := by
  refine V.bytes_Clone_ok ?_
  unfold V.bytes_Clone
  have hsh : ∃ q n c, sv = .slice q n c := by
    obtain ⟨p, c, e, _⟩ := hs w d
    exact ⟨p, _, c, e⟩
  exact gclone_src (K := K) (P := pg) Try.underlying22 rfl (bI_one l) (by omega) (by omega) d hsh (fun w' d' => (hs w' d').src) k
/-- So many bytes from a place on. -/
def sub (g : Nat → Int) (at_ n : Nat) : List Int := (List.range n).map fun j => g (at_ + j)
theorem sub_len (g : Nat → Int) (a n : Nat) : (sub g a n).length = n := by simp [sub]
theorem sub_get {g : Nat → Int} {a n j : Nat} {x : Int} (h : (sub g a n)[j]? = some x) : j < n ∧ x = g (a + j) := by
  unfold sub at h
  rw [List.getElem?_map] at h
  by_cases hj : j < n
  · rw [List.getElem?_range hj] at h
    exact ⟨hj, by simpa using h.symm⟩
  · rw [List.getElem?_eq_none (by simpa using hj)] at h; cases h
theorem Read_ok {i at_ n : Nat} (hi : i < F.length) (hu : F[i].users ≠ 0) (hn : at_ + n ≤ 64) (d : D w0 (Pl b cap F :: L) w)
    (k : ∀ sv w', D w0 (Rw 5 1 sv n ((sub F[i].data at_ n).flatMap bI) :: Pl b cap F :: L) w' → K (.tuple #[sv, .int .i64 0]) w') : Cl pg 32 #[.pointer (some ⟨b, 0, none⟩), .int .i64 i, .int .i64 at_, .int .i64 n] K w := by
  refine V.pages_Pool_Read_ok ?_
  unfold V.pages_Pool_Read
  obtain ⟨v, d⟩ := Pl.out d
  refine fn20 (fun _ _ => rfl) (find_ok hi hu d fun bb c w hv d => ?_)
  subst hv
  repeat (first | refine drw d fun w d => ?_ | (simp +decide only [SEM]) | (apply ldm d; (focus ((repeat (first | exact .h _ | refine .t _ _ ?_)); done)); (focus rfl)) | (apply lam d; (focus ((repeat (first | exact .h _ | refine .t _ _ ?_)); done)); (focus rfl)) | (((repeat (refine bld_c rfl rfl (by simp) ?_; simp only [List.set_cons_zero, List.set_cons_succ])); refine bld_n ?_)) | (refine d_new _ d fun bn w d => ?_) | refine bsl1 (by first | rfl | (simp only [cells_agg, cells_int, cells_bool, cells_ptr, cells_sl, cells_map, cells_fn, List.drop_succ_cons, List.drop_zero, List.take_succ_cons, List.take_zero, Nat.zero_add, Nat.reduceAdd, Int.toNat_natCast, Int.toNat_zero]; rfl)) rfl d (by decide) (by decide) fun bn w d => ?_ | refine bsl2 rfl rfl d fun bn w d => ?_ | refine bsl0 d fun bn w d => ?_ | refine qt d ?_ | refine qe_nil ?_ | refine qe_fa ?_ | refine qe_len ?_ | (apply qlm; (focus ((repeat (first | exact .h _ | refine .t _ _ ?_)); done)); (focus rfl)) | (apply qam; (focus ((repeat (first | exact .h _ | refine .t _ _ ?_)); done)); (focus rfl)) | refine qe _ (fun w d => by ((repeat (refine bld_c rfl rfl (by simp) ?_; simp only [List.set_cons_zero, List.set_cons_succ])); refine bld_n ?_); exact ⟨rfl, rfl⟩) ?_ | refine qe_ext rfl ?_ | refine qe_op (fun _ _ => BinI_add) ?_ | refine qe_op (fun _ _ => BinI_sub) ?_ | refine qe_op (fun _ _ => BinI_mul) ?_ | refine qe_op (fun _ _ => BinI_eql) ?_ | refine qe_op (fun _ _ => BinI_neq) ?_ | refine qe_op (fun _ _ => BinI_lss) ?_ | refine qe_op (fun _ _ => BinI_leq) ?_ | refine qe_op (fun _ _ => BinI_gtr) ?_ | refine qe_op (fun _ _ => BinI_geq) ?_ | refine qe_op (fun _ _ => Un_not _) ?_ | refine qia (by first | omega | (simp; omega)) ?_ | refine qia0 (by first | omega | (simp; omega)) ?_ | (focus (apply qln; (focus ((repeat (first | exact .h _ | refine .t _ _ ?_)); done)); (focus exact fun _ => rfl); rotate_left; (focus (first | omega | (simp; done) | (simp; omega))))) | (focus (apply ql1; (focus ((repeat (first | exact .h _ | refine .t _ _ ?_)); done)); (focus exact fun _ => rfl); (focus rfl); rotate_left; (focus (first | omega | (simp; done) | (simp; omega))))) | (focus (apply ql0; (focus ((repeat (first | exact .h _ | refine .t _ _ ?_)); done)); (focus exact fun _ => rfl); (focus rfl); rotate_left; (focus (first | omega | (simp; done) | (simp; omega))))) | (apply swm d; (focus ((repeat (first | exact .h _ | apply Rp.t)); done)); (focus rfl); (focus rfl); (focus exact ones rfl); intro w d; simp only [SPL] at d) | (apply stm d; (focus ((repeat (first | exact .h _ | apply Rp.t)); done)); (focus rfl); (focus simp); (focus exact ones rfl); intro w d; simp only [SPL] at d) | (apply lpm d; (focus ((repeat (first | exact .h _ | refine .t _ _ ?_)); done)); (focus (simp only [SEM]; rfl)); (focus rfl)) | (focus (apply rw_fld d; (focus ((repeat (first | exact .h _ | refine .t _ _ ?_)); done)); (focus exact fun _ => rfl); (focus rfl); rotate_left; (focus (first | omega | (simp; done) | (simp; omega))))) | (focus (apply rw_el1 d; (focus ((repeat (first | exact .h _ | refine .t _ _ ?_)); done)); (focus exact fun _ => rfl); (focus rfl); rotate_left; (focus (first | omega | (simp; done) | (simp; omega))))) | (focus (apply rw_elN d; (focus ((repeat (first | exact .h _ | refine .t _ _ ?_)); done)); (focus exact fun _ => rfl); rotate_left; (focus (first | omega | (simp; done) | (simp; omega))))) | (focus (apply rw_fld0 d; (focus ((repeat (first | exact .h _ | refine .t _ _ ?_)); done)); (focus exact fun _ => rfl); (focus rfl); rotate_left; (focus (first | omega | (simp; done) | (simp; omega))))) | (focus (apply rw_el10 d; (focus ((repeat (first | exact .h _ | refine .t _ _ ?_)); done)); (focus exact fun _ => rfl); (focus rfl); rotate_left; (focus (first | omega | (simp; done) | (simp; omega))))) | (focus (apply rw_elN0 d; (focus ((repeat (first | exact .h _ | refine .t _ _ ?_)); done)); (focus exact fun _ => rfl); rotate_left; (focus (first | omega | (simp; done) | (simp; omega))))) | refine ch d ?_ | refine ch (D.tail d) ?_ | refine ch (D.tail (D.tail d)) ?_ | refine ch (D.tail (D.tail (D.tail d))) ?_ | refine qe _ (fun w d => max2_ok ⟨rfl, rfl⟩) ?_ | refine qe _ (fun w d => min2_ok ⟨rfl, rfl⟩) ?_ | refine max2_ok ?_ | refine min2_ok ?_ | refine bsl3 rfl rfl rfl d fun bn w d => ?_ | refine qe_op (fun _ _ => BinI_quo rfl) ?_ | refine qe_op (fun _ _ => BinI_rem rfl) ?_ | refine qe_op (fun _ _ => BinI_or) ?_ | refine qe_op (fun _ _ => BinI_and) ?_ | refine qe_op (fun _ _ => BinI_andNot) ?_ | refine qe_op (fun _ _ => BinI_shl) ?_ | refine qe_op (fun _ _ => BinI_shr) ?_)
  refine fn30 (fun _ _ => rfl) (Within_ok (by omega) ?_)
  rw [decide_eq_true (by omega)]
  repeat (first | refine drw d fun w d => ?_ | (simp +decide only [SEM]) | (apply ldm d; (focus ((repeat (first | exact .h _ | refine .t _ _ ?_)); done)); (focus rfl)) | (apply lam d; (focus ((repeat (first | exact .h _ | refine .t _ _ ?_)); done)); (focus rfl)) | (((repeat (refine bld_c rfl rfl (by simp) ?_; simp only [List.set_cons_zero, List.set_cons_succ])); refine bld_n ?_)) | (refine d_new _ d fun bn w d => ?_) | refine bsl1 (by first | rfl | (simp only [cells_agg, cells_int, cells_bool, cells_ptr, cells_sl, cells_map, cells_fn, List.drop_succ_cons, List.drop_zero, List.take_succ_cons, List.take_zero, Nat.zero_add, Nat.reduceAdd, Int.toNat_natCast, Int.toNat_zero]; rfl)) rfl d (by decide) (by decide) fun bn w d => ?_ | refine bsl2 rfl rfl d fun bn w d => ?_ | refine bsl0 d fun bn w d => ?_ | refine qt d ?_ | refine qe_nil ?_ | refine qe_fa ?_ | refine qe_len ?_ | (apply qlm; (focus ((repeat (first | exact .h _ | refine .t _ _ ?_)); done)); (focus rfl)) | (apply qam; (focus ((repeat (first | exact .h _ | refine .t _ _ ?_)); done)); (focus rfl)) | refine qe _ (fun w d => by ((repeat (refine bld_c rfl rfl (by simp) ?_; simp only [List.set_cons_zero, List.set_cons_succ])); refine bld_n ?_); exact ⟨rfl, rfl⟩) ?_ | refine qe_ext rfl ?_ | refine qe_op (fun _ _ => BinI_add) ?_ | refine qe_op (fun _ _ => BinI_sub) ?_ | refine qe_op (fun _ _ => BinI_mul) ?_ | refine qe_op (fun _ _ => BinI_eql) ?_ | refine qe_op (fun _ _ => BinI_neq) ?_ | refine qe_op (fun _ _ => BinI_lss) ?_ | refine qe_op (fun _ _ => BinI_leq) ?_ | refine qe_op (fun _ _ => BinI_gtr) ?_ | refine qe_op (fun _ _ => BinI_geq) ?_ | refine qe_op (fun _ _ => Un_not _) ?_ | refine qia (by first | omega | (simp; omega)) ?_ | refine qia0 (by first | omega | (simp; omega)) ?_ | (focus (apply qln; (focus ((repeat (first | exact .h _ | refine .t _ _ ?_)); done)); (focus exact fun _ => rfl); rotate_left; (focus (first | omega | (simp; done) | (simp; omega))))) | (focus (apply ql1; (focus ((repeat (first | exact .h _ | refine .t _ _ ?_)); done)); (focus exact fun _ => rfl); (focus rfl); rotate_left; (focus (first | omega | (simp; done) | (simp; omega))))) | (focus (apply ql0; (focus ((repeat (first | exact .h _ | refine .t _ _ ?_)); done)); (focus exact fun _ => rfl); (focus rfl); rotate_left; (focus (first | omega | (simp; done) | (simp; omega))))) | (apply swm d; (focus ((repeat (first | exact .h _ | apply Rp.t)); done)); (focus rfl); (focus rfl); (focus exact ones rfl); intro w d; simp only [SPL] at d) | (apply stm d; (focus ((repeat (first | exact .h _ | apply Rp.t)); done)); (focus rfl); (focus simp); (focus exact ones rfl); intro w d; simp only [SPL] at d) | (apply lpm d; (focus ((repeat (first | exact .h _ | refine .t _ _ ?_)); done)); (focus (simp only [SEM]; rfl)); (focus rfl)) | (focus (apply rw_fld d; (focus ((repeat (first | exact .h _ | refine .t _ _ ?_)); done)); (focus exact fun _ => rfl); (focus rfl); rotate_left; (focus (first | omega | (simp; done) | (simp; omega))))) | (focus (apply rw_el1 d; (focus ((repeat (first | exact .h _ | refine .t _ _ ?_)); done)); (focus exact fun _ => rfl); (focus rfl); rotate_left; (focus (first | omega | (simp; done) | (simp; omega))))) | (focus (apply rw_elN d; (focus ((repeat (first | exact .h _ | refine .t _ _ ?_)); done)); (focus exact fun _ => rfl); rotate_left; (focus (first | omega | (simp; done) | (simp; omega))))) | (focus (apply rw_fld0 d; (focus ((repeat (first | exact .h _ | refine .t _ _ ?_)); done)); (focus exact fun _ => rfl); (focus rfl); rotate_left; (focus (first | omega | (simp; done) | (simp; omega))))) | (focus (apply rw_el10 d; (focus ((repeat (first | exact .h _ | refine .t _ _ ?_)); done)); (focus exact fun _ => rfl); (focus rfl); rotate_left; (focus (first | omega | (simp; done) | (simp; omega))))) | (focus (apply rw_elN0 d; (focus ((repeat (first | exact .h _ | refine .t _ _ ?_)); done)); (focus exact fun _ => rfl); rotate_left; (focus (first | omega | (simp; done) | (simp; omega))))) | refine ch d ?_ | refine ch (D.tail d) ?_ | refine ch (D.tail (D.tail d)) ?_ | refine ch (D.tail (D.tail (D.tail d))) ?_ | refine qe _ (fun w d => max2_ok ⟨rfl, rfl⟩) ?_ | refine qe _ (fun w d => min2_ok ⟨rfl, rfl⟩) ?_ | refine max2_ok ?_ | refine min2_ok ?_ | refine bsl3 rfl rfl rfl d fun bn w d => ?_ | refine qe_op (fun _ _ => BinI_quo rfl) ?_ | refine qe_op (fun _ _ => BinI_rem rfl) ?_ | refine qe_op (fun _ _ => BinI_or) ?_ | refine qe_op (fun _ _ => BinI_and) ?_ | refine qe_op (fun _ _ => BinI_andNot) ?_ | refine qe_op (fun _ _ => BinI_shl) ?_ | refine qe_op (fun _ _ => BinI_shr) ?_)
  rw [w64 (by omega) (by omega)]
  obtain ⟨inf, hinf, his⟩ := infoB
  refine sla_ok Try.underlying96 hinf his (by omega) (by omega) (by omega) fun q hq => ?_
  have e : ((at_ : Int) + n).toNat - (at_ : Int).toNat = (sub F[i].data at_ n).length := by rw [sub_len]; omega
  rw [e]
  refine fn10 (fun _ _ => rfl) (Clone_ok (l := sub F[i].data at_ n) (by rw [sub_len]; omega) d (fun w' d' => ?_) fun sv w d => ?_)
  · refine ⟨_, _, rfl, by rw [sub_len]; omega, fun hne => ⟨q, rfl, fun j x hj => ?_⟩⟩
    obtain ⟨h1, h2⟩ := sub_get hj
    rw [hq (by omega), add_of, add_of]
    obtain ⟨cs, g, hc⟩ := rw_cells d'.swap (.h _) fc_len hi
    rw [cell_of g, Int.toNat_natCast, Nat.add_zero, Nat.add_assoc, hc _ _ (fc_dt _ (by omega)), h2]
  · repeat (first | refine drw d fun w d => ?_ | (simp +decide only [SEM]) | (apply ldm d; (focus ((repeat (first | exact .h _ | refine .t _ _ ?_)); done)); (focus rfl)) | (apply lam d; (focus ((repeat (first | exact .h _ | refine .t _ _ ?_)); done)); (focus rfl)) | (((repeat (refine bld_c rfl rfl (by simp) ?_; simp only [List.set_cons_zero, List.set_cons_succ])); refine bld_n ?_)) | (refine d_new _ d fun bn w d => ?_) | refine bsl1 (by first | rfl | (simp only [cells_agg, cells_int, cells_bool, cells_ptr, cells_sl, cells_map, cells_fn, List.drop_succ_cons, List.drop_zero, List.take_succ_cons, List.take_zero, Nat.zero_add, Nat.reduceAdd, Int.toNat_natCast, Int.toNat_zero]; rfl)) rfl d (by decide) (by decide) fun bn w d => ?_ | refine bsl2 rfl rfl d fun bn w d => ?_ | refine bsl0 d fun bn w d => ?_ | refine qt d ?_ | refine qe_nil ?_ | refine qe_fa ?_ | refine qe_len ?_ | (apply qlm; (focus ((repeat (first | exact .h _ | refine .t _ _ ?_)); done)); (focus rfl)) | (apply qam; (focus ((repeat (first | exact .h _ | refine .t _ _ ?_)); done)); (focus rfl)) | refine qe _ (fun w d => by ((repeat (refine bld_c rfl rfl (by simp) ?_; simp only [List.set_cons_zero, List.set_cons_succ])); refine bld_n ?_); exact ⟨rfl, rfl⟩) ?_ | refine qe_ext rfl ?_ | refine qe_op (fun _ _ => BinI_add) ?_ | refine qe_op (fun _ _ => BinI_sub) ?_ | refine qe_op (fun _ _ => BinI_mul) ?_ | refine qe_op (fun _ _ => BinI_eql) ?_ | refine qe_op (fun _ _ => BinI_neq) ?_ | refine qe_op (fun _ _ => BinI_lss) ?_ | refine qe_op (fun _ _ => BinI_leq) ?_ | refine qe_op (fun _ _ => BinI_gtr) ?_ | refine qe_op (fun _ _ => BinI_geq) ?_ | refine qe_op (fun _ _ => Un_not _) ?_ | refine qia (by first | omega | (simp; omega)) ?_ | refine qia0 (by first | omega | (simp; omega)) ?_ | (focus (apply qln; (focus ((repeat (first | exact .h _ | refine .t _ _ ?_)); done)); (focus exact fun _ => rfl); rotate_left; (focus (first | omega | (simp; done) | (simp; omega))))) | (focus (apply ql1; (focus ((repeat (first | exact .h _ | refine .t _ _ ?_)); done)); (focus exact fun _ => rfl); (focus rfl); rotate_left; (focus (first | omega | (simp; done) | (simp; omega))))) | (focus (apply ql0; (focus ((repeat (first | exact .h _ | refine .t _ _ ?_)); done)); (focus exact fun _ => rfl); (focus rfl); rotate_left; (focus (first | omega | (simp; done) | (simp; omega))))) | (apply swm d; (focus ((repeat (first | exact .h _ | apply Rp.t)); done)); (focus rfl); (focus rfl); (focus exact ones rfl); intro w d; simp only [SPL] at d) | (apply stm d; (focus ((repeat (first | exact .h _ | apply Rp.t)); done)); (focus rfl); (focus simp); (focus exact ones rfl); intro w d; simp only [SPL] at d) | (apply lpm d; (focus ((repeat (first | exact .h _ | refine .t _ _ ?_)); done)); (focus (simp only [SEM]; rfl)); (focus rfl)) | (focus (apply rw_fld d; (focus ((repeat (first | exact .h _ | refine .t _ _ ?_)); done)); (focus exact fun _ => rfl); (focus rfl); rotate_left; (focus (first | omega | (simp; done) | (simp; omega))))) | (focus (apply rw_el1 d; (focus ((repeat (first | exact .h _ | refine .t _ _ ?_)); done)); (focus exact fun _ => rfl); (focus rfl); rotate_left; (focus (first | omega | (simp; done) | (simp; omega))))) | (focus (apply rw_elN d; (focus ((repeat (first | exact .h _ | refine .t _ _ ?_)); done)); (focus exact fun _ => rfl); rotate_left; (focus (first | omega | (simp; done) | (simp; omega))))) | (focus (apply rw_fld0 d; (focus ((repeat (first | exact .h _ | refine .t _ _ ?_)); done)); (focus exact fun _ => rfl); (focus rfl); rotate_left; (focus (first | omega | (simp; done) | (simp; omega))))) | (focus (apply rw_el10 d; (focus ((repeat (first | exact .h _ | refine .t _ _ ?_)); done)); (focus exact fun _ => rfl); (focus rfl); rotate_left; (focus (first | omega | (simp; done) | (simp; omega))))) | (focus (apply rw_elN0 d; (focus ((repeat (first | exact .h _ | refine .t _ _ ?_)); done)); (focus exact fun _ => rfl); rotate_left; (focus (first | omega | (simp; done) | (simp; omega))))) | refine ch d ?_ | refine ch (D.tail d) ?_ | refine ch (D.tail (D.tail d)) ?_ | refine ch (D.tail (D.tail (D.tail d))) ?_ | refine qe _ (fun w d => max2_ok ⟨rfl, rfl⟩) ?_ | refine qe _ (fun w d => min2_ok ⟨rfl, rfl⟩) ?_ | refine max2_ok ?_ | refine min2_ok ?_ | refine bsl3 rfl rfl rfl d fun bn w d => ?_ | refine qe_op (fun _ _ => BinI_quo rfl) ?_ | refine qe_op (fun _ _ => BinI_rem rfl) ?_ | refine qe_op (fun _ _ => BinI_or) ?_ | refine qe_op (fun _ _ => BinI_and) ?_ | refine qe_op (fun _ _ => BinI_andNot) ?_ | refine qe_op (fun _ _ => BinI_shl) ?_ | refine qe_op (fun _ _ => BinI_shr) ?_)
    rw [sub_len] at d
    exact k sv w (D.swap (Pl.mk (D.sel [1, 2] d)))
/-- Bytes copied into an element of a row. -/
theorem cp_el {P : Program} {dT sT ty elem es o n c dLen dCap : Nat} {α : Type} {f : α → List Value} {S : List α} {bb : Nat} {inf : TypeInfo} (hu : P.underlying dT = some (.slice 5)) (hi : P.info? 5 = some inf) (his : inf.size = 1)
    (d : D w0 (Rw elem es (.slice (some ⟨bb, 0, none⟩) S.length c) S.length (S.flatMap f) :: L) w) (hn : n < S.length) (y : α) (hf : ∀ x, (f x).length = es) (hs : SeesB w sv l) (hl : 0 < l.length) (hld : l.length ≤ dLen) (ho : o + l.length ≤ es)
    (hy : splice (f S[n]) o (l.flatMap bI) = f y) (k : ∀ v w', D w0 (Rw elem es (.slice (some ⟨bb, 0, none⟩) S.length c) (S.set n y).length ((S.set n y).flatMap f) :: L) w' → K v w') :
    Ex P (Builtin.copy_ #[dT, sT] ty #[.slice (some ⟨bb, n * es + o, none⟩) dLen dCap, sv]) K w := by
  obtain ⟨p, sc, rfl, hsc, hx⟩ := hs
  obtain ⟨a, rfl, hxx⟩ := hx (List.length_pos_iff.1 hl)
  obtain ⟨b', cap', junk, e, hle, hl2, s⟩ := Rw.block d.1 (by omega)
  cases e
  obtain ⟨pre, post, e1, e2, e3⟩ := flat_at hf (S := S) (i := n) hn
  have hbl : (l.flatMap bI).length = l.length := by rw [bI_map, List.length_map]
  have d1 : D w0 (cel bb elem (S.flatMap f ++ junk) :: L) w := ⟨s, d.2⟩
  have hfl := flat_len hf (S := S)
  have hnes : n * es + es ≤ S.length * es := by
    have := Nat.mul_le_mul_right es hn
    rw [Nat.succ_mul] at this; exact this
  refine cp_ok hu hi d1 (news := l.flatMap bI) (by rw [hbl, his, Nat.mul_one]; exact (Nat.min_eq_left hld).symm) (fun j v hv => ?_) (by rw [hbl, List.length_append, hfl]; omega) (bI_one l) fun v w d => ?_
  · rw [bI_map, List.getElem?_map] at hv
    obtain ⟨x, hx1, rfl⟩ := Option.map_eq_some_iff.1 hv
    exact hxx j x hx1
  · refine k v w ?_
    have hsp : splice (S.flatMap f ++ junk) (n * es + o) (l.flatMap bI) = (S.set n y).flatMap f ++ junk := by
      rw [e1, List.append_assoc (pre ++ f S[n]), splice_mid (o := o) (by omega) (by rw [hbl, hf]; exact ho), hy, e3]
      simp
    rw [hsp] at d
    have hlen : (S.set n y).length = S.length := List.length_set
    rw [hlen]
    exact ⟨Rw.mk (n := S.length) d.1 hle (by rw [flat_len hf, hlen]) (by rw [List.length_append, flat_len hf, hlen, ← hfl, ← List.length_append]; exact hl2), d.2⟩
/-- Bytes written anew. -/
def wr (g : Nat → Int) (at_ : Nat) (l : List Int) : Nat → Int := fun j => if at_ ≤ j ∧ j < at_ + l.length then (l[j - at_]?).getD 0 else g j
theorem wr_splice {x : Fr} {at_ : Nat} (h : at_ + l.length ≤ 64) : splice (fc x) at_ (l.flatMap bI) = fc ⟨wr x.data at_ l, x.users⟩ := by
  have hbl : (l.flatMap bI).length = l.length := by rw [bI_map, List.length_map]
  rw [splice_eq _ _ _ (by rw [hbl, fc_len]; omega)]
  apply List.ext_getElem?
  intro j
  by_cases hj : j < 64
  · rw [fc_dt _ hj]
    show _ = some (Value.int .u8 (wr x.data at_ l j))
    unfold wr
    by_cases h1 : j < at_
    · rw [List.append_assoc, List.getElem?_append_left (by rw [List.length_take, fc_len]; omega), List.getElem?_take_of_lt h1, fc_dt _ hj, if_neg (by omega)]
    · have ht : ((fc x).take at_).length = at_ := by rw [List.length_take, fc_len]; omega
      by_cases h2 : j < at_ + l.length
      · rw [List.getElem?_append_left (by rw [List.length_append, ht, hbl]; exact h2), List.getElem?_append_right (by omega), ht, bI_map, List.getElem?_map, if_pos ⟨by omega, h2⟩, List.getElem?_eq_getElem (by omega)]
        rfl
      · rw [List.getElem?_append_right (by rw [List.length_append, ht, hbl]; omega), List.length_append, ht, hbl, List.getElem?_drop, show at_ + l.length + (j - (at_ + l.length)) = j by omega, fc_dt _ hj, if_neg (by omega)]
  · have ht : ((fc x).take at_).length = at_ := by rw [List.length_take, fc_len]; omega
    rw [List.getElem?_append_right (by rw [List.length_append, ht, hbl]; omega), List.length_append, ht, hbl, List.getElem?_drop, show at_ + l.length + (j - (at_ + l.length)) = j by omega]
    by_cases e : j = 64
    · subst e; rw [fc_us, fc_us]
    · rw [List.getElem?_eq_none (by rw [fc_len]; omega), List.getElem?_eq_none (by rw [fc_len]; omega)]
theorem Write_ok {i at_ : Nat} (hi : i < F.length) (hu : F[i].users = 1) (hl : 0 < l.length) (hn : at_ + l.length ≤ 64) (d : D w0 (Pl b cap F :: L) w) (hs : ∀ w', D w0 (Pl b cap F :: L) w' → SeesB w' sv l)
    (k : ∀ w', D w0 (Pl b cap (F.set i ⟨wr F[i].data at_ l, 1⟩) :: L) w' → K (.int .i64 0) w') : Cl pg 51 #[.pointer (some ⟨b, 0, none⟩), .int .i64 i, .int .i64 at_, sv] K w := by
  refine V.pages_Pool_Write_ok ?_
  unfold V.pages_Pool_Write
  obtain ⟨v, d⟩ := Pl.out d
  refine fn20 (fun _ _ => rfl) (find_ok hi (by omega) d fun bb c w hv d => ?_)
  subst hv
  repeat (first | refine drw d fun w d => ?_ | (simp +decide only [SEM]) | (apply ldm d; (focus ((repeat (first | exact .h _ | refine .t _ _ ?_)); done)); (focus rfl)) | (apply lam d; (focus ((repeat (first | exact .h _ | refine .t _ _ ?_)); done)); (focus rfl)) | (((repeat (refine bld_c rfl rfl (by simp) ?_; simp only [List.set_cons_zero, List.set_cons_succ])); refine bld_n ?_)) | (refine d_new _ d fun bn w d => ?_) | refine bsl1 (by first | rfl | (simp only [cells_agg, cells_int, cells_bool, cells_ptr, cells_sl, cells_map, cells_fn, List.drop_succ_cons, List.drop_zero, List.take_succ_cons, List.take_zero, Nat.zero_add, Nat.reduceAdd, Int.toNat_natCast, Int.toNat_zero]; rfl)) rfl d (by decide) (by decide) fun bn w d => ?_ | refine bsl2 rfl rfl d fun bn w d => ?_ | refine bsl0 d fun bn w d => ?_ | refine qt d ?_ | refine qe_nil ?_ | refine qe_fa ?_ | refine qe_len ?_ | (apply qlm; (focus ((repeat (first | exact .h _ | refine .t _ _ ?_)); done)); (focus rfl)) | (apply qam; (focus ((repeat (first | exact .h _ | refine .t _ _ ?_)); done)); (focus rfl)) | refine qe _ (fun w d => by ((repeat (refine bld_c rfl rfl (by simp) ?_; simp only [List.set_cons_zero, List.set_cons_succ])); refine bld_n ?_); exact ⟨rfl, rfl⟩) ?_ | refine qe_ext rfl ?_ | refine qe_op (fun _ _ => BinI_add) ?_ | refine qe_op (fun _ _ => BinI_sub) ?_ | refine qe_op (fun _ _ => BinI_mul) ?_ | refine qe_op (fun _ _ => BinI_eql) ?_ | refine qe_op (fun _ _ => BinI_neq) ?_ | refine qe_op (fun _ _ => BinI_lss) ?_ | refine qe_op (fun _ _ => BinI_leq) ?_ | refine qe_op (fun _ _ => BinI_gtr) ?_ | refine qe_op (fun _ _ => BinI_geq) ?_ | refine qe_op (fun _ _ => Un_not _) ?_ | refine qia (by first | omega | (simp; omega)) ?_ | refine qia0 (by first | omega | (simp; omega)) ?_ | (focus (apply qln; (focus ((repeat (first | exact .h _ | refine .t _ _ ?_)); done)); (focus exact fun _ => rfl); rotate_left; (focus (first | omega | (simp; done) | (simp; omega))))) | (focus (apply ql1; (focus ((repeat (first | exact .h _ | refine .t _ _ ?_)); done)); (focus exact fun _ => rfl); (focus rfl); rotate_left; (focus (first | omega | (simp; done) | (simp; omega))))) | (focus (apply ql0; (focus ((repeat (first | exact .h _ | refine .t _ _ ?_)); done)); (focus exact fun _ => rfl); (focus rfl); rotate_left; (focus (first | omega | (simp; done) | (simp; omega))))) | (apply swm d; (focus ((repeat (first | exact .h _ | apply Rp.t)); done)); (focus rfl); (focus rfl); (focus exact ones rfl); intro w d; simp only [SPL] at d) | (apply stm d; (focus ((repeat (first | exact .h _ | apply Rp.t)); done)); (focus rfl); (focus simp); (focus exact ones rfl); intro w d; simp only [SPL] at d) | (apply lpm d; (focus ((repeat (first | exact .h _ | refine .t _ _ ?_)); done)); (focus (simp only [SEM]; rfl)); (focus rfl)) | (focus (apply rw_fld d; (focus ((repeat (first | exact .h _ | refine .t _ _ ?_)); done)); (focus exact fun _ => rfl); (focus rfl); rotate_left; (focus (first | omega | (simp; done) | (simp; omega))))) | (focus (apply rw_el1 d; (focus ((repeat (first | exact .h _ | refine .t _ _ ?_)); done)); (focus exact fun _ => rfl); (focus rfl); rotate_left; (focus (first | omega | (simp; done) | (simp; omega))))) | (focus (apply rw_elN d; (focus ((repeat (first | exact .h _ | refine .t _ _ ?_)); done)); (focus exact fun _ => rfl); rotate_left; (focus (first | omega | (simp; done) | (simp; omega))))) | (focus (apply rw_fld0 d; (focus ((repeat (first | exact .h _ | refine .t _ _ ?_)); done)); (focus exact fun _ => rfl); (focus rfl); rotate_left; (focus (first | omega | (simp; done) | (simp; omega))))) | (focus (apply rw_el10 d; (focus ((repeat (first | exact .h _ | refine .t _ _ ?_)); done)); (focus exact fun _ => rfl); (focus rfl); rotate_left; (focus (first | omega | (simp; done) | (simp; omega))))) | (focus (apply rw_elN0 d; (focus ((repeat (first | exact .h _ | refine .t _ _ ?_)); done)); (focus exact fun _ => rfl); rotate_left; (focus (first | omega | (simp; done) | (simp; omega))))) | refine ch d ?_ | refine ch (D.tail d) ?_ | refine ch (D.tail (D.tail d)) ?_ | refine ch (D.tail (D.tail (D.tail d))) ?_ | refine qe _ (fun w d => max2_ok ⟨rfl, rfl⟩) ?_ | refine qe _ (fun w d => min2_ok ⟨rfl, rfl⟩) ?_ | refine max2_ok ?_ | refine min2_ok ?_ | refine bsl3 rfl rfl rfl d fun bn w d => ?_ | refine qe_op (fun _ _ => BinI_quo rfl) ?_ | refine qe_op (fun _ _ => BinI_rem rfl) ?_ | refine qe_op (fun _ _ => BinI_or) ?_ | refine qe_op (fun _ _ => BinI_and) ?_ | refine qe_op (fun _ _ => BinI_andNot) ?_ | refine qe_op (fun _ _ => BinI_shl) ?_ | refine qe_op (fun _ _ => BinI_shr) ?_)
  refine (hs w (Pl.mk d)).len ?_
  refine fn30 (fun _ _ => rfl) (Within_ok (by omega) ?_)
  rw [decide_eq_true (by omega)]
  repeat (first | refine drw d fun w d => ?_ | (simp +decide only [SEM]) | (apply ldm d; (focus ((repeat (first | exact .h _ | refine .t _ _ ?_)); done)); (focus rfl)) | (apply lam d; (focus ((repeat (first | exact .h _ | refine .t _ _ ?_)); done)); (focus rfl)) | (((repeat (refine bld_c rfl rfl (by simp) ?_; simp only [List.set_cons_zero, List.set_cons_succ])); refine bld_n ?_)) | (refine d_new _ d fun bn w d => ?_) | refine bsl1 (by first | rfl | (simp only [cells_agg, cells_int, cells_bool, cells_ptr, cells_sl, cells_map, cells_fn, List.drop_succ_cons, List.drop_zero, List.take_succ_cons, List.take_zero, Nat.zero_add, Nat.reduceAdd, Int.toNat_natCast, Int.toNat_zero]; rfl)) rfl d (by decide) (by decide) fun bn w d => ?_ | refine bsl2 rfl rfl d fun bn w d => ?_ | refine bsl0 d fun bn w d => ?_ | refine qt d ?_ | refine qe_nil ?_ | refine qe_fa ?_ | refine qe_len ?_ | (apply qlm; (focus ((repeat (first | exact .h _ | refine .t _ _ ?_)); done)); (focus rfl)) | (apply qam; (focus ((repeat (first | exact .h _ | refine .t _ _ ?_)); done)); (focus rfl)) | refine qe _ (fun w d => by ((repeat (refine bld_c rfl rfl (by simp) ?_; simp only [List.set_cons_zero, List.set_cons_succ])); refine bld_n ?_); exact ⟨rfl, rfl⟩) ?_ | refine qe_ext rfl ?_ | refine qe_op (fun _ _ => BinI_add) ?_ | refine qe_op (fun _ _ => BinI_sub) ?_ | refine qe_op (fun _ _ => BinI_mul) ?_ | refine qe_op (fun _ _ => BinI_eql) ?_ | refine qe_op (fun _ _ => BinI_neq) ?_ | refine qe_op (fun _ _ => BinI_lss) ?_ | refine qe_op (fun _ _ => BinI_leq) ?_ | refine qe_op (fun _ _ => BinI_gtr) ?_ | refine qe_op (fun _ _ => BinI_geq) ?_ | refine qe_op (fun _ _ => Un_not _) ?_ | refine qia (by first | omega | (simp; omega)) ?_ | refine qia0 (by first | omega | (simp; omega)) ?_ | (focus (apply qln; (focus ((repeat (first | exact .h _ | refine .t _ _ ?_)); done)); (focus exact fun _ => rfl); rotate_left; (focus (first | omega | (simp; done) | (simp; omega))))) | (focus (apply ql1; (focus ((repeat (first | exact .h _ | refine .t _ _ ?_)); done)); (focus exact fun _ => rfl); (focus rfl); rotate_left; (focus (first | omega | (simp; done) | (simp; omega))))) | (focus (apply ql0; (focus ((repeat (first | exact .h _ | refine .t _ _ ?_)); done)); (focus exact fun _ => rfl); (focus rfl); rotate_left; (focus (first | omega | (simp; done) | (simp; omega))))) | (apply swm d; (focus ((repeat (first | exact .h _ | apply Rp.t)); done)); (focus rfl); (focus rfl); (focus exact ones rfl); intro w d; simp only [SPL] at d) | (apply stm d; (focus ((repeat (first | exact .h _ | apply Rp.t)); done)); (focus rfl); (focus simp); (focus exact ones rfl); intro w d; simp only [SPL] at d) | (apply lpm d; (focus ((repeat (first | exact .h _ | refine .t _ _ ?_)); done)); (focus (simp only [SEM]; rfl)); (focus rfl)) | (focus (apply rw_fld d; (focus ((repeat (first | exact .h _ | refine .t _ _ ?_)); done)); (focus exact fun _ => rfl); (focus rfl); rotate_left; (focus (first | omega | (simp; done) | (simp; omega))))) | (focus (apply rw_el1 d; (focus ((repeat (first | exact .h _ | refine .t _ _ ?_)); done)); (focus exact fun _ => rfl); (focus rfl); rotate_left; (focus (first | omega | (simp; done) | (simp; omega))))) | (focus (apply rw_elN d; (focus ((repeat (first | exact .h _ | refine .t _ _ ?_)); done)); (focus exact fun _ => rfl); rotate_left; (focus (first | omega | (simp; done) | (simp; omega))))) | (focus (apply rw_fld0 d; (focus ((repeat (first | exact .h _ | refine .t _ _ ?_)); done)); (focus exact fun _ => rfl); (focus rfl); rotate_left; (focus (first | omega | (simp; done) | (simp; omega))))) | (focus (apply rw_el10 d; (focus ((repeat (first | exact .h _ | refine .t _ _ ?_)); done)); (focus exact fun _ => rfl); (focus rfl); rotate_left; (focus (first | omega | (simp; done) | (simp; omega))))) | (focus (apply rw_elN0 d; (focus ((repeat (first | exact .h _ | refine .t _ _ ?_)); done)); (focus exact fun _ => rfl); rotate_left; (focus (first | omega | (simp; done) | (simp; omega))))) | refine ch d ?_ | refine ch (D.tail d) ?_ | refine ch (D.tail (D.tail d)) ?_ | refine ch (D.tail (D.tail (D.tail d))) ?_ | refine qe _ (fun w d => max2_ok ⟨rfl, rfl⟩) ?_ | refine qe _ (fun w d => min2_ok ⟨rfl, rfl⟩) ?_ | refine max2_ok ?_ | refine min2_ok ?_ | refine bsl3 rfl rfl rfl d fun bn w d => ?_ | refine qe_op (fun _ _ => BinI_quo rfl) ?_ | refine qe_op (fun _ _ => BinI_rem rfl) ?_ | refine qe_op (fun _ _ => BinI_or) ?_ | refine qe_op (fun _ _ => BinI_and) ?_ | refine qe_op (fun _ _ => BinI_andNot) ?_ | refine qe_op (fun _ _ => BinI_shl) ?_ | refine qe_op (fun _ _ => BinI_shr) ?_)
  refine ldp1 d.swap fc_len hi (fc_us _) ?_
  rw [hu]
  repeat (first | refine drw d fun w d => ?_ | (simp +decide only [SEM]) | (apply ldm d; (focus ((repeat (first | exact .h _ | refine .t _ _ ?_)); done)); (focus rfl)) | (apply lam d; (focus ((repeat (first | exact .h _ | refine .t _ _ ?_)); done)); (focus rfl)) | (((repeat (refine bld_c rfl rfl (by simp) ?_; simp only [List.set_cons_zero, List.set_cons_succ])); refine bld_n ?_)) | (refine d_new _ d fun bn w d => ?_) | refine bsl1 (by first | rfl | (simp only [cells_agg, cells_int, cells_bool, cells_ptr, cells_sl, cells_map, cells_fn, List.drop_succ_cons, List.drop_zero, List.take_succ_cons, List.take_zero, Nat.zero_add, Nat.reduceAdd, Int.toNat_natCast, Int.toNat_zero]; rfl)) rfl d (by decide) (by decide) fun bn w d => ?_ | refine bsl2 rfl rfl d fun bn w d => ?_ | refine bsl0 d fun bn w d => ?_ | refine qt d ?_ | refine qe_nil ?_ | refine qe_fa ?_ | refine qe_len ?_ | (apply qlm; (focus ((repeat (first | exact .h _ | refine .t _ _ ?_)); done)); (focus rfl)) | (apply qam; (focus ((repeat (first | exact .h _ | refine .t _ _ ?_)); done)); (focus rfl)) | refine qe _ (fun w d => by ((repeat (refine bld_c rfl rfl (by simp) ?_; simp only [List.set_cons_zero, List.set_cons_succ])); refine bld_n ?_); exact ⟨rfl, rfl⟩) ?_ | refine qe_ext rfl ?_ | refine qe_op (fun _ _ => BinI_add) ?_ | refine qe_op (fun _ _ => BinI_sub) ?_ | refine qe_op (fun _ _ => BinI_mul) ?_ | refine qe_op (fun _ _ => BinI_eql) ?_ | refine qe_op (fun _ _ => BinI_neq) ?_ | refine qe_op (fun _ _ => BinI_lss) ?_ | refine qe_op (fun _ _ => BinI_leq) ?_ | refine qe_op (fun _ _ => BinI_gtr) ?_ | refine qe_op (fun _ _ => BinI_geq) ?_ | refine qe_op (fun _ _ => Un_not _) ?_ | refine qia (by first | omega | (simp; omega)) ?_ | refine qia0 (by first | omega | (simp; omega)) ?_ | (focus (apply qln; (focus ((repeat (first | exact .h _ | refine .t _ _ ?_)); done)); (focus exact fun _ => rfl); rotate_left; (focus (first | omega | (simp; done) | (simp; omega))))) | (focus (apply ql1; (focus ((repeat (first | exact .h _ | refine .t _ _ ?_)); done)); (focus exact fun _ => rfl); (focus rfl); rotate_left; (focus (first | omega | (simp; done) | (simp; omega))))) | (focus (apply ql0; (focus ((repeat (first | exact .h _ | refine .t _ _ ?_)); done)); (focus exact fun _ => rfl); (focus rfl); rotate_left; (focus (first | omega | (simp; done) | (simp; omega))))) | (apply swm d; (focus ((repeat (first | exact .h _ | apply Rp.t)); done)); (focus rfl); (focus rfl); (focus exact ones rfl); intro w d; simp only [SPL] at d) | (apply stm d; (focus ((repeat (first | exact .h _ | apply Rp.t)); done)); (focus rfl); (focus simp); (focus exact ones rfl); intro w d; simp only [SPL] at d) | (apply lpm d; (focus ((repeat (first | exact .h _ | refine .t _ _ ?_)); done)); (focus (simp only [SEM]; rfl)); (focus rfl)) | (focus (apply rw_fld d; (focus ((repeat (first | exact .h _ | refine .t _ _ ?_)); done)); (focus exact fun _ => rfl); (focus rfl); rotate_left; (focus (first | omega | (simp; done) | (simp; omega))))) | (focus (apply rw_el1 d; (focus ((repeat (first | exact .h _ | refine .t _ _ ?_)); done)); (focus exact fun _ => rfl); (focus rfl); rotate_left; (focus (first | omega | (simp; done) | (simp; omega))))) | (focus (apply rw_elN d; (focus ((repeat (first | exact .h _ | refine .t _ _ ?_)); done)); (focus exact fun _ => rfl); rotate_left; (focus (first | omega | (simp; done) | (simp; omega))))) | (focus (apply rw_fld0 d; (focus ((repeat (first | exact .h _ | refine .t _ _ ?_)); done)); (focus exact fun _ => rfl); (focus rfl); rotate_left; (focus (first | omega | (simp; done) | (simp; omega))))) | (focus (apply rw_el10 d; (focus ((repeat (first | exact .h _ | refine .t _ _ ?_)); done)); (focus exact fun _ => rfl); (focus rfl); rotate_left; (focus (first | omega | (simp; done) | (simp; omega))))) | (focus (apply rw_elN0 d; (focus ((repeat (first | exact .h _ | refine .t _ _ ?_)); done)); (focus exact fun _ => rfl); rotate_left; (focus (first | omega | (simp; done) | (simp; omega))))) | refine ch d ?_ | refine ch (D.tail d) ?_ | refine ch (D.tail (D.tail d)) ?_ | refine ch (D.tail (D.tail (D.tail d))) ?_ | refine qe _ (fun w d => max2_ok ⟨rfl, rfl⟩) ?_ | refine qe _ (fun w d => min2_ok ⟨rfl, rfl⟩) ?_ | refine max2_ok ?_ | refine min2_ok ?_ | refine bsl3 rfl rfl rfl d fun bn w d => ?_ | refine qe_op (fun _ _ => BinI_quo rfl) ?_ | refine qe_op (fun _ _ => BinI_rem rfl) ?_ | refine qe_op (fun _ _ => BinI_or) ?_ | refine qe_op (fun _ _ => BinI_and) ?_ | refine qe_op (fun _ _ => BinI_andNot) ?_ | refine qe_op (fun _ _ => BinI_shl) ?_ | refine qe_op (fun _ _ => BinI_shr) ?_)
  obtain ⟨inf, hinf, his⟩ := infoB
  refine sla1_ok Try.underlying96 hinf his (by omega) (by omega) fun q hq => ?_
  rw [hq (by omega), add_of, Int.toNat_natCast]
  refine cp_el (l := l) Try.underlying22 hinf his d.swap hi ⟨wr F[i].data at_ l, 1⟩ fc_len (hs w (Pl.mk d)) hl (by omega) (by omega) ?_ fun v w d => ?_
  · rw [wr_splice hn, hu]
  · refine k w (Pl.mk (v := .slice (some ⟨bb, 0, none⟩) F.length c) ?_)
    have hus := usedF_set hi (⟨wr F[i].data at_ l, 1⟩ : Fr)
    have h1 : us0 F[i] = false := decide_eq_false (by omega)
    have h2 : us0 (⟨wr F[i].data at_ l, 1⟩ : Fr) = false := rfl
    rw [h1, h2] at hus
    have e : usedF (F.set i ⟨wr F[i].data at_ l, 1⟩) = usedF F := by simpa using hus
    rw [e]
    exact d.swap
end
end Go.Proofs.Ytlcbfahjejgjlaa
