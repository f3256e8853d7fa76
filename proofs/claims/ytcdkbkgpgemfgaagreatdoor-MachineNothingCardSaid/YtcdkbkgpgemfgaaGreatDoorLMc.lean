/- MachineNothing: the walk. -/
import Derived.Test.YtcdkbkgpgemfgaaGreatDoorLMb
import Derived.Test.YtcdkbkgpgemfgaaGreatDoorVC
import Derived.Test.YtcdkbkgpgemfgaaGreatDoorSm
import Derived.Laws.BytesString
import Derived.Laws.BytesArg
set_option maxRecDepth 100000
set_option maxHeartbeats 8000000
namespace Go.Proofs.YtcdkbkgpgemfgaaGreatDoor
open Go Go.Jac
/-- A step among the arguments. -/
structure MS where
  kd : Int
  by_ : Int
  x : Nat → Int
  q7 : Option Addr
  n7 : Nat
  c7 : Nat
  q8 : Option Addr
  n8 : Nat
  c8 : Nat
def mcells (kd by_ : Int) (x : Nat → Int) (q7 : Option Addr) (n7 c7 : Nat) (q8 : Option Addr) (n8 c8 : Nat) : List Value :=
  [.int .i64 kd, .int .i64 (x 0), .int .i64 by_, .int .i64 (x 1), .int .i64 (x 2), .int .i64 (x 3), .int .i64 (x 4), .int .i64 (x 5), .int .i64 (x 6), .int .i64 (x 7), .slice q7 n7 c7, .slice q8 n8 c8]
def mf (s : MS) : List Value := mcells s.kd s.by_ s.x s.q7 s.n7 s.c7 s.q8 s.n8 s.c8
/-- The kind that a round has: none in the place of 1. -/
def kd' (k : Int) : Int := if k = 1 then 0 else k
def mE (now steps kind by_ : Int) (c : Nat) : Value := if c = 0 then .int .i64 now else if c = 1 then .int .i64 steps else if c = 2 then .int .i64 kind else if c = 3 then .int .i64 by_ else if c = 4 then .int .i64 (IntKind.i64.wrap (now + by_)) else if c = 5 then .int .i64 (IntKind.i64.wrap (1099511627776 - now)) else .int .i64 (IntKind.i64.wrap (steps + 1))
abbrev mD (T : XT) (now steps kind by_ : Int) : Dr := drW (fun _ => 0) (mE now steps kind by_) [] T
theorem mE_one (now steps kind by_ : Int) (c : Nat) : (mE now steps kind by_ c).oneCell' = true := by
  unfold mE
  repeat (split; rfl)
  rfl
theorem mD_ok {T : XT} {now steps kind by_ : Int} (hT : ∀ op x y z, (op, x, y, z) ∈ T → Ent (mD T now steps kind by_).at_ op x y z) : DrOk (mD T now steps kind by_) :=
  drW_ok (fun _ => ⟨by decide, by decide⟩) (mE_one _ _ _ _) (fun _ _ _ _ h => by cases h) hT
theorem mT_ent {T : XT} {now steps kind by_ : Int} : ∀ op x y z, (op, x, y, z) ∈ mT → Ent (mD T now steps kind by_).at_ op x y z := by
  intro op x y z h
  unfold mT at h
  rcases List.mem_cons.1 h with h | h
  · cases h
    exact ⟨.i64, steps, .i64, 1, rfl, rfl, rfl, rfl, rfl, by simp [intBin, vT]; rfl⟩
  · cases List.mem_singleton.1 h
    exact ⟨.i64, 1099511627776, .i64, now, rfl, rfl, rfl, rfl, rfl, by simp [intBin, vT]; rfl⟩
theorem app_ent {A B : XT} {at_ : Nat → Nat → Value} (hA : ∀ op x y z, (op, x, y, z) ∈ A → Ent at_ op x y z) (hB : ∀ op x y z, (op, x, y, z) ∈ B → Ent at_ op x y z) : ∀ op x y z, (op, x, y, z) ∈ A ++ B → Ent at_ op x y z := by
  intro op x y z h
  rcases List.mem_append.1 h with h | h
  · exact hA _ _ _ _ h
  · exact hB _ _ _ _ h
theorem mfront {AT : Nat → Nat → Value} {A : HP} {w0 w : World} {L : List HP} {σ : Sg} {S : XS} (r : Rep AT pg w0 (A :: L) σ S w) : D w0 (A :: (S.bs.map (partB AT pg σ) ++ L)) w := r.d.perm List.perm_middle
theorem mback {AT : Nat → Nat → Value} {A : HP} {w0 w w' : World} {L L' : List HP} {σ : Sg} {S : XS} (r : Rep AT pg w0 L' σ S w) (d : D w0 (A :: (S.bs.map (partB AT pg σ) ++ L)) w') : Rep AT pg w0 (A :: L) σ S w' := ⟨d.perm List.perm_middle.symm, r.fresh⟩
theorem mback2 {AT : Nat → Nat → Value} {A B : HP} {w0 w w' : World} {L L' : List HP} {σ : Sg} {S : XS} (r : Rep AT pg w0 L' σ S w) (d : D w0 (A :: B :: (S.bs.map (partB AT pg σ) ++ L)) w') : Rep AT pg w0 (A :: B :: L) σ S w' :=
  ⟨d.perm (List.perm_append_comm_assoc [A, B] (S.bs.map (partB AT pg σ)) L), r.fresh⟩
theorem mfront2 {AT : Nat → Nat → Value} {A B : HP} {w0 w : World} {L : List HP} {σ : Sg} {S : XS} (r : Rep AT pg w0 (A :: B :: L) σ S w) : D w0 (A :: B :: (S.bs.map (partB AT pg σ) ++ L)) w :=
  r.d.perm (List.perm_append_comm_assoc [A, B] (S.bs.map (partB AT pg σ)) L).symm
section
variable {w0 w : World} {L : List HP} {K : Value → WP} {lv : Value} {l : List MS}
theorem mset_ok (d : D w0 L w) (k : ∀ w', D w0 L w' → K (.agg #[.int .i64 20, .int .i64 10, .int .i64 3, .int .i64 10, .int .i64 10]) w') : Cl pg 27 #[] K w := by
  refine V.jacinthlaw20_settings_ok ?_
  unfold V.jacinthlaw20_settings
  refine d_new _ d fun bn w d => ?_
  repeat (first | refine drw d fun w d => ?_ | (simp +decide only [SEM]) | (apply ldm d; (focus ((repeat (first | exact .h _ | refine .t _ _ ?_)); done)); (focus rfl)) | (apply lam d; (focus ((repeat (first | exact .h _ | refine .t _ _ ?_)); done)); (focus rfl)) | (((repeat (refine bld_c rfl rfl (by simp) ?_; simp only [List.set_cons_zero, List.set_cons_succ])); refine bld_n ?_)) | (refine d_new _ d fun bn w d => ?_) | refine bsl1 (by first | rfl | (simp only [cells_agg, cells_int, cells_bool, cells_ptr, cells_sl, cells_map, cells_fn, List.drop_succ_cons, List.drop_zero, List.take_succ_cons, List.take_zero, Nat.zero_add, Nat.reduceAdd, Int.toNat_natCast, Int.toNat_zero]; rfl)) rfl d (by decide) (by decide) fun bn w d => ?_ | refine bsl2 rfl rfl d fun bn w d => ?_ | refine bsl0 d fun bn w d => ?_ | refine qt d ?_ | refine qe_nil ?_ | refine qe_fa ?_ | refine qe_len ?_ | (apply qlm; (focus ((repeat (first | exact .h _ | refine .t _ _ ?_)); done)); (focus rfl)) | (apply qam; (focus ((repeat (first | exact .h _ | refine .t _ _ ?_)); done)); (focus rfl)) | refine qe _ (fun w d => by ((repeat (refine bld_c rfl rfl (by simp) ?_; simp only [List.set_cons_zero, List.set_cons_succ])); refine bld_n ?_); exact ⟨rfl, rfl⟩) ?_ | refine qe_ext rfl ?_ | refine qe_op (fun _ _ => BinI_add) ?_ | refine qe_op (fun _ _ => BinI_sub) ?_ | refine qe_op (fun _ _ => BinI_mul) ?_ | refine qe_op (fun _ _ => BinI_eql) ?_ | refine qe_op (fun _ _ => BinI_neq) ?_ | refine qe_op (fun _ _ => BinI_lss) ?_ | refine qe_op (fun _ _ => BinI_leq) ?_ | refine qe_op (fun _ _ => BinI_gtr) ?_ | refine qe_op (fun _ _ => BinI_geq) ?_ | refine qe_op (fun _ _ => Un_not _) ?_ | refine qia (by first | omega | (simp; omega)) ?_ | refine qia0 (by first | omega | (simp; omega)) ?_ | (focus (apply qln; (focus ((repeat (first | exact .h _ | refine .t _ _ ?_)); done)); (focus exact fun _ => rfl); rotate_left; (focus (first | omega | (simp; done) | (simp; omega))))) | (focus (apply ql1; (focus ((repeat (first | exact .h _ | refine .t _ _ ?_)); done)); (focus exact fun _ => rfl); (focus rfl); rotate_left; (focus (first | omega | (simp; done) | (simp; omega))))) | (focus (apply ql0; (focus ((repeat (first | exact .h _ | refine .t _ _ ?_)); done)); (focus exact fun _ => rfl); (focus rfl); rotate_left; (focus (first | omega | (simp; done) | (simp; omega))))) | (apply swm d; (focus ((repeat (first | exact .h _ | apply Rp.t)); done)); (focus rfl); (focus rfl); (focus exact ones rfl); intro w d; simp only [SPL] at d) | (apply stm d; (focus ((repeat (first | exact .h _ | apply Rp.t)); done)); (focus rfl); (focus simp); (focus exact ones rfl); intro w d; simp only [SPL] at d) | (apply lpm d; (focus ((repeat (first | exact .h _ | refine .t _ _ ?_)); done)); (focus (simp only [SEM]; rfl)); (focus rfl)) | (focus (apply rw_fld d; (focus ((repeat (first | exact .h _ | refine .t _ _ ?_)); done)); (focus exact fun _ => rfl); (focus rfl); rotate_left; (focus (first | omega | (simp; done) | (simp; omega))))) | (focus (apply rw_el1 d; (focus ((repeat (first | exact .h _ | refine .t _ _ ?_)); done)); (focus exact fun _ => rfl); (focus rfl); rotate_left; (focus (first | omega | (simp; done) | (simp; omega))))) | (focus (apply rw_elN d; (focus ((repeat (first | exact .h _ | refine .t _ _ ?_)); done)); (focus exact fun _ => rfl); rotate_left; (focus (first | omega | (simp; done) | (simp; omega))))) | (focus (apply rw_fld0 d; (focus ((repeat (first | exact .h _ | refine .t _ _ ?_)); done)); (focus exact fun _ => rfl); (focus rfl); rotate_left; (focus (first | omega | (simp; done) | (simp; omega))))) | (focus (apply rw_el10 d; (focus ((repeat (first | exact .h _ | refine .t _ _ ?_)); done)); (focus exact fun _ => rfl); (focus rfl); rotate_left; (focus (first | omega | (simp; done) | (simp; omega))))) | (focus (apply rw_elN0 d; (focus ((repeat (first | exact .h _ | refine .t _ _ ?_)); done)); (focus exact fun _ => rfl); rotate_left; (focus (first | omega | (simp; done) | (simp; omega))))) | refine ch d ?_ | refine ch (D.tail d) ?_ | refine ch (D.tail (D.tail d)) ?_ | refine ch (D.tail (D.tail (D.tail d))) ?_ | refine qe _ (fun w d => max2_ok ⟨rfl, rfl⟩) ?_ | refine qe _ (fun w d => min2_ok ⟨rfl, rfl⟩) ?_ | refine max2_ok ?_ | refine min2_ok ?_ | refine bsl3 rfl rfl rfl d fun bn w d => ?_ | refine qe_op (fun _ _ => BinI_quo rfl) ?_ | refine qe_op (fun _ _ => BinI_rem rfl) ?_ | refine qe_op (fun _ _ => BinI_or) ?_ | refine qe_op (fun _ _ => BinI_and) ?_ | refine qe_op (fun _ _ => BinI_andNot) ?_ | refine qe_op (fun _ _ => BinI_shl) ?_ | refine qe_op (fun _ _ => BinI_shr) ?_)
  exact k w d.tail
theorem convNil (k : K (.string ⟨#[]⟩) w) : Ex pg (convert 31 9 (.slice none 0 0)) K w := by
  refine ⟨_, w, ?_, k⟩
  rw [run_convert_bytes_string w 31 9 5 none _ 0 Tryz.underlying31 Tryz.underlying5 Tryz.underlying9]
  simp [Conv.bytesToString]
  rfl
theorem msame_ok (d : D w0 L w) (k : ∀ w', D w0 L w' → K (.bool true) w') : Cl pg 32 #[.agg #[.int .i64 0, .int .i64 0, .int .i64 0, .slice none 0 0, .slice none 0 0], .agg #[.int .i64 0, .int .i64 0, .int .i64 0, .slice none 0 0, .slice none 0 0]] K w := by
  refine V.jacinthlaw20_same_ok ?_
  unfold V.jacinthlaw20_same
  refine d_new _ d fun b1 w d => ?_
  refine d_new _ d fun b2 w d => ?_
  repeat (first | refine drw d fun w d => ?_ | (simp +decide only [SEM]) | (apply ldm d; (focus ((repeat (first | exact .h _ | refine .t _ _ ?_)); done)); (focus rfl)) | (apply lam d; (focus ((repeat (first | exact .h _ | refine .t _ _ ?_)); done)); (focus rfl)) | (((repeat (refine bld_c rfl rfl (by simp) ?_; simp only [List.set_cons_zero, List.set_cons_succ])); refine bld_n ?_)) | (refine d_new _ d fun bn w d => ?_) | refine bsl1 (by first | rfl | (simp only [cells_agg, cells_int, cells_bool, cells_ptr, cells_sl, cells_map, cells_fn, List.drop_succ_cons, List.drop_zero, List.take_succ_cons, List.take_zero, Nat.zero_add, Nat.reduceAdd, Int.toNat_natCast, Int.toNat_zero]; rfl)) rfl d (by decide) (by decide) fun bn w d => ?_ | refine bsl2 rfl rfl d fun bn w d => ?_ | refine bsl0 d fun bn w d => ?_ | refine qt d ?_ | refine qe_nil ?_ | refine qe_fa ?_ | refine qe_len ?_ | (apply qlm; (focus ((repeat (first | exact .h _ | refine .t _ _ ?_)); done)); (focus rfl)) | (apply qam; (focus ((repeat (first | exact .h _ | refine .t _ _ ?_)); done)); (focus rfl)) | refine qe _ (fun w d => by ((repeat (refine bld_c rfl rfl (by simp) ?_; simp only [List.set_cons_zero, List.set_cons_succ])); refine bld_n ?_); exact ⟨rfl, rfl⟩) ?_ | refine qe_ext rfl ?_ | refine qe_op (fun _ _ => BinI_add) ?_ | refine qe_op (fun _ _ => BinI_sub) ?_ | refine qe_op (fun _ _ => BinI_mul) ?_ | refine qe_op (fun _ _ => BinI_eql) ?_ | refine qe_op (fun _ _ => BinI_neq) ?_ | refine qe_op (fun _ _ => BinI_lss) ?_ | refine qe_op (fun _ _ => BinI_leq) ?_ | refine qe_op (fun _ _ => BinI_gtr) ?_ | refine qe_op (fun _ _ => BinI_geq) ?_ | refine qe_op (fun _ _ => Un_not _) ?_ | refine qia (by first | omega | (simp; omega)) ?_ | refine qia0 (by first | omega | (simp; omega)) ?_ | (focus (apply qln; (focus ((repeat (first | exact .h _ | refine .t _ _ ?_)); done)); (focus exact fun _ => rfl); rotate_left; (focus (first | omega | (simp; done) | (simp; omega))))) | (focus (apply ql1; (focus ((repeat (first | exact .h _ | refine .t _ _ ?_)); done)); (focus exact fun _ => rfl); (focus rfl); rotate_left; (focus (first | omega | (simp; done) | (simp; omega))))) | (focus (apply ql0; (focus ((repeat (first | exact .h _ | refine .t _ _ ?_)); done)); (focus exact fun _ => rfl); (focus rfl); rotate_left; (focus (first | omega | (simp; done) | (simp; omega))))) | (apply swm d; (focus ((repeat (first | exact .h _ | apply Rp.t)); done)); (focus rfl); (focus rfl); (focus exact ones rfl); intro w d; simp only [SPL] at d) | (apply stm d; (focus ((repeat (first | exact .h _ | apply Rp.t)); done)); (focus rfl); (focus simp); (focus exact ones rfl); intro w d; simp only [SPL] at d) | (apply lpm d; (focus ((repeat (first | exact .h _ | refine .t _ _ ?_)); done)); (focus (simp only [SEM]; rfl)); (focus rfl)) | (focus (apply rw_fld d; (focus ((repeat (first | exact .h _ | refine .t _ _ ?_)); done)); (focus exact fun _ => rfl); (focus rfl); rotate_left; (focus (first | omega | (simp; done) | (simp; omega))))) | (focus (apply rw_el1 d; (focus ((repeat (first | exact .h _ | refine .t _ _ ?_)); done)); (focus exact fun _ => rfl); (focus rfl); rotate_left; (focus (first | omega | (simp; done) | (simp; omega))))) | (focus (apply rw_elN d; (focus ((repeat (first | exact .h _ | refine .t _ _ ?_)); done)); (focus exact fun _ => rfl); rotate_left; (focus (first | omega | (simp; done) | (simp; omega))))) | (focus (apply rw_fld0 d; (focus ((repeat (first | exact .h _ | refine .t _ _ ?_)); done)); (focus exact fun _ => rfl); (focus rfl); rotate_left; (focus (first | omega | (simp; done) | (simp; omega))))) | (focus (apply rw_el10 d; (focus ((repeat (first | exact .h _ | refine .t _ _ ?_)); done)); (focus exact fun _ => rfl); (focus rfl); rotate_left; (focus (first | omega | (simp; done) | (simp; omega))))) | (focus (apply rw_elN0 d; (focus ((repeat (first | exact .h _ | refine .t _ _ ?_)); done)); (focus exact fun _ => rfl); rotate_left; (focus (first | omega | (simp; done) | (simp; omega))))) | refine ch d ?_ | refine ch (D.tail d) ?_ | refine ch (D.tail (D.tail d)) ?_ | refine ch (D.tail (D.tail (D.tail d))) ?_ | refine qe _ (fun w d => max2_ok ⟨rfl, rfl⟩) ?_ | refine qe _ (fun w d => min2_ok ⟨rfl, rfl⟩) ?_ | refine max2_ok ?_ | refine min2_ok ?_ | refine bsl3 rfl rfl rfl d fun bn w d => ?_ | refine qe_op (fun _ _ => BinI_quo rfl) ?_ | refine qe_op (fun _ _ => BinI_rem rfl) ?_ | refine qe_op (fun _ _ => BinI_or) ?_ | refine qe_op (fun _ _ => BinI_and) ?_ | refine qe_op (fun _ _ => BinI_andNot) ?_ | refine qe_op (fun _ _ => BinI_shl) ?_ | refine qe_op (fun _ _ => BinI_shr) ?_)
  refine fn20 (fun _ _ => rfl) (V.jacinthlaw20_ints_ok ?_)
  unfold V.jacinthlaw20_ints
  repeat (first | refine drw d fun w d => ?_ | (simp +decide only [SEM]) | (apply ldm d; (focus ((repeat (first | exact .h _ | refine .t _ _ ?_)); done)); (focus rfl)) | (apply lam d; (focus ((repeat (first | exact .h _ | refine .t _ _ ?_)); done)); (focus rfl)) | (((repeat (refine bld_c rfl rfl (by simp) ?_; simp only [List.set_cons_zero, List.set_cons_succ])); refine bld_n ?_)) | (refine d_new _ d fun bn w d => ?_) | refine bsl1 (by first | rfl | (simp only [cells_agg, cells_int, cells_bool, cells_ptr, cells_sl, cells_map, cells_fn, List.drop_succ_cons, List.drop_zero, List.take_succ_cons, List.take_zero, Nat.zero_add, Nat.reduceAdd, Int.toNat_natCast, Int.toNat_zero]; rfl)) rfl d (by decide) (by decide) fun bn w d => ?_ | refine bsl2 rfl rfl d fun bn w d => ?_ | refine bsl0 d fun bn w d => ?_ | refine qt d ?_ | refine qe_nil ?_ | refine qe_fa ?_ | refine qe_len ?_ | (apply qlm; (focus ((repeat (first | exact .h _ | refine .t _ _ ?_)); done)); (focus rfl)) | (apply qam; (focus ((repeat (first | exact .h _ | refine .t _ _ ?_)); done)); (focus rfl)) | refine qe _ (fun w d => by ((repeat (refine bld_c rfl rfl (by simp) ?_; simp only [List.set_cons_zero, List.set_cons_succ])); refine bld_n ?_); exact ⟨rfl, rfl⟩) ?_ | refine qe_ext rfl ?_ | refine qe_op (fun _ _ => BinI_add) ?_ | refine qe_op (fun _ _ => BinI_sub) ?_ | refine qe_op (fun _ _ => BinI_mul) ?_ | refine qe_op (fun _ _ => BinI_eql) ?_ | refine qe_op (fun _ _ => BinI_neq) ?_ | refine qe_op (fun _ _ => BinI_lss) ?_ | refine qe_op (fun _ _ => BinI_leq) ?_ | refine qe_op (fun _ _ => BinI_gtr) ?_ | refine qe_op (fun _ _ => BinI_geq) ?_ | refine qe_op (fun _ _ => Un_not _) ?_ | refine qia (by first | omega | (simp; omega)) ?_ | refine qia0 (by first | omega | (simp; omega)) ?_ | (focus (apply qln; (focus ((repeat (first | exact .h _ | refine .t _ _ ?_)); done)); (focus exact fun _ => rfl); rotate_left; (focus (first | omega | (simp; done) | (simp; omega))))) | (focus (apply ql1; (focus ((repeat (first | exact .h _ | refine .t _ _ ?_)); done)); (focus exact fun _ => rfl); (focus rfl); rotate_left; (focus (first | omega | (simp; done) | (simp; omega))))) | (focus (apply ql0; (focus ((repeat (first | exact .h _ | refine .t _ _ ?_)); done)); (focus exact fun _ => rfl); (focus rfl); rotate_left; (focus (first | omega | (simp; done) | (simp; omega))))) | (apply swm d; (focus ((repeat (first | exact .h _ | apply Rp.t)); done)); (focus rfl); (focus rfl); (focus exact ones rfl); intro w d; simp only [SPL] at d) | (apply stm d; (focus ((repeat (first | exact .h _ | apply Rp.t)); done)); (focus rfl); (focus simp); (focus exact ones rfl); intro w d; simp only [SPL] at d) | (apply lpm d; (focus ((repeat (first | exact .h _ | refine .t _ _ ?_)); done)); (focus (simp only [SEM]; rfl)); (focus rfl)) | (focus (apply rw_fld d; (focus ((repeat (first | exact .h _ | refine .t _ _ ?_)); done)); (focus exact fun _ => rfl); (focus rfl); rotate_left; (focus (first | omega | (simp; done) | (simp; omega))))) | (focus (apply rw_el1 d; (focus ((repeat (first | exact .h _ | refine .t _ _ ?_)); done)); (focus exact fun _ => rfl); (focus rfl); rotate_left; (focus (first | omega | (simp; done) | (simp; omega))))) | (focus (apply rw_elN d; (focus ((repeat (first | exact .h _ | refine .t _ _ ?_)); done)); (focus exact fun _ => rfl); rotate_left; (focus (first | omega | (simp; done) | (simp; omega))))) | (focus (apply rw_fld0 d; (focus ((repeat (first | exact .h _ | refine .t _ _ ?_)); done)); (focus exact fun _ => rfl); (focus rfl); rotate_left; (focus (first | omega | (simp; done) | (simp; omega))))) | (focus (apply rw_el10 d; (focus ((repeat (first | exact .h _ | refine .t _ _ ?_)); done)); (focus exact fun _ => rfl); (focus rfl); rotate_left; (focus (first | omega | (simp; done) | (simp; omega))))) | (focus (apply rw_elN0 d; (focus ((repeat (first | exact .h _ | refine .t _ _ ?_)); done)); (focus exact fun _ => rfl); rotate_left; (focus (first | omega | (simp; done) | (simp; omega))))) | refine ch d ?_ | refine ch (D.tail d) ?_ | refine ch (D.tail (D.tail d)) ?_ | refine ch (D.tail (D.tail (D.tail d))) ?_ | refine qe _ (fun w d => max2_ok ⟨rfl, rfl⟩) ?_ | refine qe _ (fun w d => min2_ok ⟨rfl, rfl⟩) ?_ | refine max2_ok ?_ | refine min2_ok ?_ | refine bsl3 rfl rfl rfl d fun bn w d => ?_ | refine qe_op (fun _ _ => BinI_quo rfl) ?_ | refine qe_op (fun _ _ => BinI_rem rfl) ?_ | refine qe_op (fun _ _ => BinI_or) ?_ | refine qe_op (fun _ _ => BinI_and) ?_ | refine qe_op (fun _ _ => BinI_andNot) ?_ | refine qe_op (fun _ _ => BinI_shl) ?_ | refine qe_op (fun _ _ => BinI_shr) ?_)
  refine ⟨fun vs w' => vs = [.bool false, .int .i64 0] ∧ D w0 (cel b2 33 [.int .i64 0, .int .i64 0, .int .i64 0, .slice none 0 0, .slice none 0 0] :: cel b1 33 [.int .i64 0, .int .i64 0, .int .i64 0, .slice none 0 0, .slice none 0 0] :: L) w', fun _ _ => 0, ⟨rfl, d⟩, ?_⟩
  clear d
  rintro _ w ⟨rfl, d⟩ _
  simp only [UN]
  repeat (first | refine drw d fun w d => ?_ | (simp +decide only [SEM]) | (apply ldm d; (focus ((repeat (first | exact .h _ | refine .t _ _ ?_)); done)); (focus rfl)) | (apply lam d; (focus ((repeat (first | exact .h _ | refine .t _ _ ?_)); done)); (focus rfl)) | (((repeat (refine bld_c rfl rfl (by simp) ?_; simp only [List.set_cons_zero, List.set_cons_succ])); refine bld_n ?_)) | (refine d_new _ d fun bn w d => ?_) | refine bsl1 (by first | rfl | (simp only [cells_agg, cells_int, cells_bool, cells_ptr, cells_sl, cells_map, cells_fn, List.drop_succ_cons, List.drop_zero, List.take_succ_cons, List.take_zero, Nat.zero_add, Nat.reduceAdd, Int.toNat_natCast, Int.toNat_zero]; rfl)) rfl d (by decide) (by decide) fun bn w d => ?_ | refine bsl2 rfl rfl d fun bn w d => ?_ | refine bsl0 d fun bn w d => ?_ | refine qt d ?_ | refine qe_nil ?_ | refine qe_fa ?_ | refine qe_len ?_ | (apply qlm; (focus ((repeat (first | exact .h _ | refine .t _ _ ?_)); done)); (focus rfl)) | (apply qam; (focus ((repeat (first | exact .h _ | refine .t _ _ ?_)); done)); (focus rfl)) | refine qe _ (fun w d => by ((repeat (refine bld_c rfl rfl (by simp) ?_; simp only [List.set_cons_zero, List.set_cons_succ])); refine bld_n ?_); exact ⟨rfl, rfl⟩) ?_ | refine qe_ext rfl ?_ | refine qe_op (fun _ _ => BinI_add) ?_ | refine qe_op (fun _ _ => BinI_sub) ?_ | refine qe_op (fun _ _ => BinI_mul) ?_ | refine qe_op (fun _ _ => BinI_eql) ?_ | refine qe_op (fun _ _ => BinI_neq) ?_ | refine qe_op (fun _ _ => BinI_lss) ?_ | refine qe_op (fun _ _ => BinI_leq) ?_ | refine qe_op (fun _ _ => BinI_gtr) ?_ | refine qe_op (fun _ _ => BinI_geq) ?_ | refine qe_op (fun _ _ => Un_not _) ?_ | refine qia (by first | omega | (simp; omega)) ?_ | refine qia0 (by first | omega | (simp; omega)) ?_ | (focus (apply qln; (focus ((repeat (first | exact .h _ | refine .t _ _ ?_)); done)); (focus exact fun _ => rfl); rotate_left; (focus (first | omega | (simp; done) | (simp; omega))))) | (focus (apply ql1; (focus ((repeat (first | exact .h _ | refine .t _ _ ?_)); done)); (focus exact fun _ => rfl); (focus rfl); rotate_left; (focus (first | omega | (simp; done) | (simp; omega))))) | (focus (apply ql0; (focus ((repeat (first | exact .h _ | refine .t _ _ ?_)); done)); (focus exact fun _ => rfl); (focus rfl); rotate_left; (focus (first | omega | (simp; done) | (simp; omega))))) | (apply swm d; (focus ((repeat (first | exact .h _ | apply Rp.t)); done)); (focus rfl); (focus rfl); (focus exact ones rfl); intro w d; simp only [SPL] at d) | (apply stm d; (focus ((repeat (first | exact .h _ | apply Rp.t)); done)); (focus rfl); (focus simp); (focus exact ones rfl); intro w d; simp only [SPL] at d) | (apply lpm d; (focus ((repeat (first | exact .h _ | refine .t _ _ ?_)); done)); (focus (simp only [SEM]; rfl)); (focus rfl)) | (focus (apply rw_fld d; (focus ((repeat (first | exact .h _ | refine .t _ _ ?_)); done)); (focus exact fun _ => rfl); (focus rfl); rotate_left; (focus (first | omega | (simp; done) | (simp; omega))))) | (focus (apply rw_el1 d; (focus ((repeat (first | exact .h _ | refine .t _ _ ?_)); done)); (focus exact fun _ => rfl); (focus rfl); rotate_left; (focus (first | omega | (simp; done) | (simp; omega))))) | (focus (apply rw_elN d; (focus ((repeat (first | exact .h _ | refine .t _ _ ?_)); done)); (focus exact fun _ => rfl); rotate_left; (focus (first | omega | (simp; done) | (simp; omega))))) | (focus (apply rw_fld0 d; (focus ((repeat (first | exact .h _ | refine .t _ _ ?_)); done)); (focus exact fun _ => rfl); (focus rfl); rotate_left; (focus (first | omega | (simp; done) | (simp; omega))))) | (focus (apply rw_el10 d; (focus ((repeat (first | exact .h _ | refine .t _ _ ?_)); done)); (focus exact fun _ => rfl); (focus rfl); rotate_left; (focus (first | omega | (simp; done) | (simp; omega))))) | (focus (apply rw_elN0 d; (focus ((repeat (first | exact .h _ | refine .t _ _ ?_)); done)); (focus exact fun _ => rfl); rotate_left; (focus (first | omega | (simp; done) | (simp; omega))))) | refine ch d ?_ | refine ch (D.tail d) ?_ | refine ch (D.tail (D.tail d)) ?_ | refine ch (D.tail (D.tail (D.tail d))) ?_ | refine qe _ (fun w d => max2_ok ⟨rfl, rfl⟩) ?_ | refine qe _ (fun w d => min2_ok ⟨rfl, rfl⟩) ?_ | refine max2_ok ?_ | refine min2_ok ?_ | refine bsl3 rfl rfl rfl d fun bn w d => ?_ | refine qe_op (fun _ _ => BinI_quo rfl) ?_ | refine qe_op (fun _ _ => BinI_rem rfl) ?_ | refine qe_op (fun _ _ => BinI_or) ?_ | refine qe_op (fun _ _ => BinI_and) ?_ | refine qe_op (fun _ _ => BinI_andNot) ?_ | refine qe_op (fun _ _ => BinI_shl) ?_ | refine qe_op (fun _ _ => BinI_shr) ?_)
  refine fn20 (fun _ _ => rfl) (V.jacinthref07_Same_ok ?_)
  unfold V.jacinthref07_Same
  refine convNil (convNil ?_)
  have hg : (eqGuard .eql 9 (.tmp 6) (.tmp 8) (.string ⟨#[]⟩) (.string ⟨#[]⟩)).run pg w = .ok () w := by unfold eqGuard; rfl
  refine ⟨_, w, by rw [Sem.run_bind, hg, binOp_string_eql]; rfl, ?_⟩
  show K (.bool ((⟨#[]⟩ : ByteArray).toList == (⟨#[]⟩ : ByteArray).toList)) w
  rw [beq_self_eq_true]
  exact k w d.tail.tail
/-- What a round needs: its table is right, its run has been worked out, what it comes to. -/
structure RO (b o : Nat) (S : XS) (now i kd by_ : Int) (x : Nat → Int) (q7 : Option Addr) (n7 c7 : Nat) (q8 : Option Addr) (n8 c8 : Nat) (T : XT) (kX nw : X) (k st now' : Int) : Prop where
  hD : DrOk (mD T now i kd by_)
  run : ∃ kb ko Sa Sb Sc Sd Se Sf Sg ob rn, Rnd T b o S (stX kX (.sym 0 3) x q7 n7 c7 q8 n8 c8) nw k st kb ko Sa Sb Sc Sd Se Sf Sg ob rn
  kX : ∀ σ, den (mD T now i kd by_).at_ σ kX = some (.int .i64 kd)
  nw : ∀ σ, den (mD T now i kd by_).at_ σ nw = some (.int .i64 now')
  rng : 0 ≤ now' ∧ now' ≤ 1099511627776
  what : (kd ≠ 2 ∧ k = 0 ∧ st = 0 ∧ now' = now) ∨ (kd = 2 ∧ k = 4 ∧ ((0 ≤ by_ ∧ by_ ≤ 1099511627776 - now ∧ st = 0 ∧ now' = now + by_) ∨ (¬ (0 ≤ by_ ∧ by_ ≤ 1099511627776 - now) ∧ st = -10 ∧ now' = now)))
theorem lk2 {AT AT' : Nat → Nat → Value} {σ : Sg} {z0 z1 : X} (h0 : den AT σ z0 = some (AT' 0 0)) (h1 : den AT σ z1 = some (AT' 0 1)) : ∀ i c z, lkS [(0, 0, z0), (0, 1, z1)] i c = some z → den AT σ z = some (AT' i c) := by
  intro i c z h
  unfold lkS at h
  cases hi : Nat.beq 0 i with
  | false => rw [hi] at h; unfold lkS at h; rw [hi] at h; cases h
  | true =>
    rw [hi, cond_true] at h
    have hi' := beq_eq hi
    subst hi'
    cases hc : Nat.beq 0 c with
    | true => rw [hc] at h; have hc' := beq_eq hc; subst hc'; cases h; exact h0
    | false =>
      rw [hc, cond_false] at h
      unfold lkS at h
      rw [hi, cond_true] at h
      cases hc1 : Nat.beq 1 c with
      | true => rw [hc1] at h; have hc' := beq_eq hc1; subst hc'; cases h; exact h1
      | false => rw [hc1] at h; cases h
theorem jnil {AT AT' : Nat → Nat → Value} : ∀ i j, lkB [] i = some j → ∀ c, AT' i c = AT j c := fun _ _ h => by cases h
/-- A round can be worked out. -/
theorem ro_of {b o : Nat} {S1 S : XS} (hg : ∀ g, mInv g = g b o S1 S) {now i kd by_ : Int} {x : Nat → Int} {q7 q8 : Option Addr} {n7 c7 n8 c8 : Nat} (hnow : 0 ≤ now ∧ now ≤ 1099511627776) (hby : I64 by_) (hkd : kd ≠ 1) :
    ∃ T kX nw k st now', RO b o S now i kd by_ x q7 n7 c7 q8 n8 c8 T kX nw k st now' := by
  unfold I64 at hby
  by_cases h2 : kd = 2
  · subst h2
    by_cases hneg : by_ < 0
    · refine ⟨mTn, .int .i64 2, .sym 0 0, 4, -10, now, ⟨mD_ok (app_ent mT_ent fun op x y z h => ?_), round_ok hg (mn_n x q7 n7 c7 q8 n8 c8), fun _ => rfl, fun _ => rfl, hnow, .inr ⟨rfl, rfl, .inr ⟨by omega, rfl, rfl⟩⟩⟩⟩
      cases List.mem_singleton.1 h
      exact ⟨.i64, by_, .i64, 0, rfl, rfl, rfl, rfl, rfl, by simp [intBin, vT]; omega⟩
    · have hw : IntKind.i64.wrap (1099511627776 - now) = 1099511627776 - now := w64 (by omega) (by omega)
      by_cases hbig : 1099511627776 - now < by_
      · refine ⟨mTg, .int .i64 2, .sym 0 0, 4, -10, now, ⟨mD_ok (app_ent mT_ent fun op x y z h => ?_), round_ok hg (mn_g x q7 n7 c7 q8 n8 c8), fun _ => rfl, fun _ => rfl, hnow, .inr ⟨rfl, rfl, .inr ⟨by omega, rfl, rfl⟩⟩⟩⟩
        rcases List.mem_cons.1 h with h | h
        · cases h
          exact ⟨.i64, by_, .i64, 0, rfl, rfl, rfl, rfl, rfl, by simp [intBin, vT]; omega⟩
        · cases List.mem_singleton.1 h
          exact ⟨.i64, by_, .i64, 1099511627776 - now, rfl, rfl, rfl, rfl, by show Value.int .i64 (IntKind.i64.wrap (1099511627776 - now)) = _; rw [hw], by simp [intBin, vT]; omega⟩
      · have hw2 : IntKind.i64.wrap (now + by_) = now + by_ := w64 (by omega) (by omega)
        refine ⟨mTv, .int .i64 2, .sym 0 4, 4, 0, now + by_, ⟨mD_ok (app_ent mT_ent fun op x y z h => ?_), round_ok hg (mn_v x q7 n7 c7 q8 n8 c8), fun _ => rfl, fun _ => by rw [den_sym]; show Value.int .i64 (now + by_) = .int .i64 (IntKind.i64.wrap (now + by_)); rw [hw2], ⟨by omega, by omega⟩, .inr ⟨rfl, rfl, .inl ⟨by omega, by omega, rfl, rfl⟩⟩⟩⟩
        rcases List.mem_cons.1 h with h | h
        · cases h
          exact ⟨.i64, by_, .i64, 0, rfl, rfl, rfl, rfl, rfl, by simp [intBin, vT]; omega⟩
        · rcases List.mem_cons.1 h with h | h
          · cases h
            exact ⟨.i64, by_, .i64, 1099511627776 - now, rfl, rfl, rfl, rfl, by show Value.int .i64 (IntKind.i64.wrap (1099511627776 - now)) = _; rw [hw], by simp [intBin, vT]; omega⟩
          · cases List.mem_singleton.1 h
            exact ⟨.i64, now, .i64, by_, rfl, rfl, rfl, rfl, rfl, by simp [intBin, vT]; rfl⟩
  · refine ⟨mTk, .sym 0 2, .sym 0 0, 0, 0, now, ⟨mD_ok (app_ent mT_ent fun op x y z h => ?_), round_ok hg (mn_k x q7 n7 c7 q8 n8 c8), fun _ => rfl, fun _ => rfl, hnow, .inl ⟨h2, rfl, rfl, rfl⟩⟩⟩
    rcases List.mem_cons.1 h with h | h
    · cases h
      exact ⟨.i64, kd, .i64, 1, rfl, rfl, rfl, rfl, rfl, by simp [intBin, vT]; exact hkd⟩
    · cases List.mem_singleton.1 h
      exact ⟨.i64, kd, .i64, 2, rfl, rfl, rfl, rfl, rfl, by simp [intBin, vT]; exact h2⟩
def la (l : List MS) (i : Nat) : Int × Int := (l[i]?.map fun s => (kd' s.kd, s.by_)).getD (0, 0)
theorem la_at {l : List MS} {i : Nat} (h : i < l.length) : la l i = (kd' l[i].kd, l[i].by_) := by unfold la; rw [List.getElem?_eq_getElem h]; rfl
end
end Go.Proofs.YtcdkbkgpgemfgaaGreatDoor
