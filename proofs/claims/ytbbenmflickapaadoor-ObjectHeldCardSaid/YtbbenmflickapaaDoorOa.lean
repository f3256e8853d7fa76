/- Objects: names, headers, the map of all. -/
import Derived.Test.YtbbenmflickapaaDoorV
import Derived.Test.YtbbenmflickapaaDoorSp
import Derived.Test.YtbbenmflickapaaDoorSn
import Derived.Test.YtbbenmflickapaaDoorSm
import Derived.Laws.Strings
set_option maxRecDepth 100000
set_option maxHeartbeats 4000000
namespace Go.Proofs.YtbbenmflickapaaDoor
open Go Go.Jac
/-- The table of names, when the walk began. -/
def Nmd (w0 : World) : Prop := ∀ i < 12, ∃ s : ByteArray, w0.cell? ⟨0, i, none⟩ = some (.string s) ∧ (s.toList == []) = decide (i = 0)
def nc (x : Int) : List Value := [.int .i64 x]
theorem nc_len (x : Int) : (nc x).length = 1 := rfl
/-- An object. -/
structure Hd where
  id : Int
  kind : Int
  peer : Int
  refs : Int
  pins : Int
  car : Int
  crs : Int
  shows : Int
  paired : Bool
  bv : Value
  bag : List Int
  blk : Nat
def hcell (x : Hd) : List Value := [.int .i64 x.kind, .int .i64 x.peer, .int .i64 x.refs, .int .i64 x.pins, .int .i64 x.car, .int .i64 x.crs, .int .i64 x.shows, .bool x.paired, x.bv]
def hdr (x : Hd) : HP := sat [cel x.blk 65 (hcell x), Rw 3 1 x.bv x.bag.length (x.bag.flatMap nc)]
def hfind (M : List Hd) (id : Int) : Option Hd := M.find? fun x => decide (x.id = id)
def rmH (id : Int) (M : List Hd) : List Hd := M.filter fun x => decide (x.id ≠ id)
def hmap (M : List Hd) : Int → Option Value := fun k => (hfind M k).map fun x => .pointer (some ⟨x.blk, 0, none⟩)
def Nd (M : List Hd) : Prop := (M.map (·.id)).Nodup
theorem hfind_id {M : List Hd} {id : Int} {x : Hd} (h : hfind M id = some x) : x.id = id ∧ x ∈ M := by
  have h1 := List.find?_some h
  exact ⟨by simpa using h1, List.mem_of_find?_eq_some h⟩
theorem hfind_cons (M : List Hd) (x : Hd) (id : Int) : hfind (x :: M) id = if x.id = id then some x else hfind M id := by
  unfold hfind
  rw [List.find?_cons]
  by_cases h : x.id = id <;> simp [h]
theorem hfind_rm (M : List Hd) (a id : Int) : hfind (rmH a M) id = if a = id then none else hfind M id := by
  unfold hfind rmH
  rw [List.find?_filter]
  split
  · rename_i h
    subst h
    rw [List.find?_eq_none]
    intro x _
    simp
  · rename_i h
    congr 1
    funext x
    by_cases hx : x.id = id
    · have h' : ¬ id = a := fun e => h e.symm
      simp [hx, h']
    · simp [hx]
theorem Nd.rm {M : List Hd} (h : Nd M) (id : Int) : Nd (rmH id M) := by
  unfold Nd rmH at *
  exact List.Nodup.sublist ((List.filter_sublist).map _) h
theorem rm_none {M : List Hd} {id : Int} (h : hfind M id = none) : rmH id M = M := by
  unfold rmH
  refine List.filter_eq_self.2 fun x hx => ?_
  unfold hfind at h
  rw [List.find?_eq_none] at h
  simpa using h x hx
/-- One is taken out. -/
theorem rm_perm {M : List Hd} {id : Int} {x : Hd} (hn : Nd M) (h : hfind M id = some x) : M.Perm (x :: rmH id M) := by
  induction M with
  | nil => simp [hfind] at h
  | cons y r ih =>
    have hn' : y.id ∉ r.map (·.id) ∧ Nd r := by unfold Nd at hn; rwa [List.map_cons, List.nodup_cons] at hn
    rw [hfind_cons] at h
    by_cases hy : y.id = id
    · rw [if_pos hy] at h
      obtain rfl := Option.some.inj h
      have e : rmH id (y :: r) = r := by
        unfold rmH
        rw [List.filter_cons_of_neg (by simp [hy])]
        refine List.filter_eq_self.2 fun z hz => ?_
        simp only [decide_eq_true_eq]
        intro e
        exact hn'.1 (List.mem_map.2 ⟨z, hz, e.trans hy.symm⟩)
      rw [e]
    · rw [if_neg hy] at h
      have e : rmH id (y :: r) = y :: rmH id r := by
        unfold rmH
        rw [List.filter_cons_of_pos (by simp [hy])]
      rw [e]
      exact ((ih hn'.2 h).cons y).trans (List.Perm.swap x y _)
theorem Nd.set {M : List Hd} {x : Hd} (h : Nd M) : Nd (x :: rmH x.id M) := by
  have h1 := h.rm x.id
  unfold Nd at *
  rw [List.map_cons, List.nodup_cons]
  refine ⟨fun hm => ?_, h1⟩
  obtain ⟨y, hy, e⟩ := List.mem_map.1 hm
  unfold rmH at hy
  have := (List.mem_filter.1 hy).2
  simp at this
  exact this e
theorem set_len {M : List Hd} {x y : Hd} {id : Int} (hn : Nd M) (h : hfind M id = some x) : (y :: rmH id M).length = M.length := by
  have := (rm_perm hn h).length_eq
  simpa using this.symm
theorem rm_len {M : List Hd} {x : Hd} {id : Int} (hn : Nd M) (h : hfind M id = some x) : (rmH id M).length + 1 = M.length := by
  have := (rm_perm hn h).length_eq
  simpa using this.symm
theorem hmap_set {M : List Hd} {x y : Hd} {id : Int} (h : hfind M id = some x) (hi : y.id = id) (hb : y.blk = x.blk) : hmap (y :: rmH id M) = hmap M := by
  funext k
  unfold hmap
  rw [hfind_cons, hfind_rm]
  by_cases e : id = k
  · subst e
    rw [if_pos hi, h]
    simp [hb]
  · rw [if_neg (by rw [hi]; exact e), if_neg e]
theorem hmap_rm (M : List Hd) (id : Int) : hmap (rmH id M) = del (hmap M) id := by
  funext k
  unfold hmap del
  rw [hfind_rm]
  by_cases e : id = k
  · subst e; simp
  · rw [if_neg e, if_neg (fun h => e h.symm)]
theorem hmap_add (M : List Hd) (x : Hd) : hmap (x :: M) = upd (hmap M) x.id (.pointer (some ⟨x.blk, 0, none⟩)) := by
  funext k
  unfold hmap upd
  rw [hfind_cons]
  by_cases e : x.id = k
  · subst e; simp
  · rw [if_neg e, if_neg (fun h => e h.symm)]
def frst (kind : Int) : Int := if kind = 4 ∨ kind = 5 ∨ kind = 6 then 2 else if kind = 11 then 32 else 0
def Ob (b : Nat) (last most : Int) (M : List Hd) : HP := ex fun m => sat [cel b 60 [.map (some m), .int .i64 last, .int .i64 most], Mp m (hmap M) M.length, sat (M.map hdr)]
section
variable {w0 w : World} {L : List HP} {K : Value → WP} {b m : Nat} {last most : Int} {M : List Hd}
theorem Ob.out (d : D w0 (Ob b last most M :: L) w) : ∃ m, D w0 (cel b 60 [.map (some m), .int .i64 last, .int .i64 most] :: Mp m (hmap M) M.length :: sat (M.map hdr) :: L) w := by
  obtain ⟨m, d⟩ := d.ex
  exact ⟨m, d.opens⟩
theorem Ob.mk (d : D w0 (cel b 60 [.map (some m), .int .i64 last, .int .i64 most] :: Mp m (hmap M) M.length :: sat (M.map hdr) :: L) w) : D w0 (Ob b last most M :: L) w :=
  D.mk_ex (A := fun m => sat [cel b 60 [.map (some m), .int .i64 last, .int .i64 most], Mp m (hmap M) M.length, sat (M.map hdr)]) m (D.close (M := [_, _, _]) d)
/-- An object's header, taken out of all. -/
theorem one_out {x : Hd} {id : Int} (hn : Nd M) (h : hfind M id = some x) (d : D w0 (sat (M.map hdr) :: L) w) : D w0 (cel x.blk 65 (hcell x) :: Rw 3 1 x.bv x.bag.length (x.bag.flatMap nc) :: sat ((rmH id M).map hdr) :: L) w :=
  (D.take1 (rm_perm hn h) d).opens
theorem one_in {y : Hd} {R : List Hd} (d : D w0 (cel y.blk 65 (hcell y) :: Rw 3 1 y.bv y.bag.length (y.bag.flatMap nc) :: sat (R.map hdr) :: L) w) : D w0 (sat ((y :: R).map hdr) :: L) w :=
  D.put1 (List.Perm.refl _) (D.close (M := [_, _]) d)
theorem streq {t : TypeId} {ox oy : Operand} {a b : ByteArray} (k : K (.bool (a.toList == b.toList)) w) : BinX pg .eql t ox oy (.string a) (.string b) K w := by
  have hg : (eqGuard .eql t ox oy (.string a) (.string b)).run pg w = .ok () w := by unfold eqGuard; rfl
  exact ⟨_, w, by rw [Sem.run_bind, hg, binOp_string_eql]; rfl, k⟩
theorem iar12 {q : Nat} {b : Nat} (h : q < 12) (k : K (.pointer (some ⟨b, q, none⟩)) w) : IAr 12 1 (.pointer (some ⟨b, 0, none⟩)) (.int .i64 q) K w :=
  ⟨_, _, _, rfl, rfl, by omega, by omega, by
    have e : (⟨b, 0, none⟩ : Addr).add ((q : Int).toNat * 1) = ⟨b, q, none⟩ := by
      unfold Addr.add
      by_cases h0 : q = 0
      · subst h0; rfl
      · simp [h0]
    rw [e]; exact k⟩
theorem Name_ok {kind : Int} (hN : Nmd w0) (hm : Old w0 ∈ L) (d : D w0 L w) (k : ∀ s : ByteArray, (s.toList == []) = decide (¬ (1 ≤ kind ∧ kind < 12)) → K (.string s) w) : Cl pg 22 #[.int .i64 kind] K w := by
  refine V.rights_Name_ok ?_
  unfold V.rights_Name
  have k0 : ¬ (1 ≤ kind ∧ kind < 12) → K (.string ⟨#[]⟩) w := fun h => k _ (by rw [decide_eq_true h]; kernel_rfl)
  repeat (first | refine drw d fun w d => ?_ | (simp +decide only [SEM]) | (apply ldm d; (focus ((repeat (first | exact .h _ | refine .t _ _ ?_)); done)); (focus rfl)) | (apply lam d; (focus ((repeat (first | exact .h _ | refine .t _ _ ?_)); done)); (focus rfl)) | (((repeat (refine bld_c rfl rfl (by simp) ?_; simp only [List.set_cons_zero, List.set_cons_succ])); refine bld_n ?_)) | (refine d_new _ d fun bn w d => ?_) | refine bsl1 (by first | rfl | (simp only [cells_agg, cells_int, cells_bool, cells_ptr, cells_sl, cells_map, cells_fn, List.drop_succ_cons, List.drop_zero, List.take_succ_cons, List.take_zero, Nat.zero_add, Nat.reduceAdd, Int.toNat_natCast, Int.toNat_zero]; rfl)) rfl d (by decide) (by decide) fun bn w d => ?_ | refine bsl2 rfl rfl d fun bn w d => ?_ | refine bsl0 d fun bn w d => ?_ | refine qt d ?_ | refine qe_nil ?_ | refine qe_fa ?_ | refine qe_len ?_ | (apply qlm; (focus ((repeat (first | exact .h _ | refine .t _ _ ?_)); done)); (focus rfl)) | (apply qam; (focus ((repeat (first | exact .h _ | refine .t _ _ ?_)); done)); (focus rfl)) | refine qe _ (fun w d => by ((repeat (refine bld_c rfl rfl (by simp) ?_; simp only [List.set_cons_zero, List.set_cons_succ])); refine bld_n ?_); exact ⟨rfl, rfl⟩) ?_ | refine qe_ext rfl ?_ | refine qe_op (fun _ _ => BinI_add) ?_ | refine qe_op (fun _ _ => BinI_sub) ?_ | refine qe_op (fun _ _ => BinI_mul) ?_ | refine qe_op (fun _ _ => BinI_eql) ?_ | refine qe_op (fun _ _ => BinI_neq) ?_ | refine qe_op (fun _ _ => BinI_lss) ?_ | refine qe_op (fun _ _ => BinI_leq) ?_ | refine qe_op (fun _ _ => BinI_gtr) ?_ | refine qe_op (fun _ _ => BinI_geq) ?_ | refine qe_op (fun _ _ => Un_not _) ?_ | refine qia (by first | omega | (simp; omega)) ?_ | refine qia0 (by first | omega | (simp; omega)) ?_ | (focus (apply qln; (focus ((repeat (first | exact .h _ | refine .t _ _ ?_)); done)); (focus exact fun _ => rfl); rotate_left; (focus (first | omega | (simp; done) | (simp; omega))))) | (focus (apply ql1; (focus ((repeat (first | exact .h _ | refine .t _ _ ?_)); done)); (focus exact fun _ => rfl); (focus rfl); rotate_left; (focus (first | omega | (simp; done) | (simp; omega))))) | (focus (apply ql0; (focus ((repeat (first | exact .h _ | refine .t _ _ ?_)); done)); (focus exact fun _ => rfl); (focus rfl); rotate_left; (focus (first | omega | (simp; done) | (simp; omega))))) | (apply swm d; (focus ((repeat (first | exact .h _ | apply Rp.t)); done)); (focus rfl); (focus rfl); (focus exact ones rfl); intro w d; simp only [SPL] at d) | (apply stm d; (focus ((repeat (first | exact .h _ | apply Rp.t)); done)); (focus rfl); (focus simp); (focus exact ones rfl); intro w d; simp only [SPL] at d) | (apply lpm d; (focus ((repeat (first | exact .h _ | refine .t _ _ ?_)); done)); (focus (simp only [SEM]; rfl)); (focus rfl)) | (focus (apply rw_fld d; (focus ((repeat (first | exact .h _ | refine .t _ _ ?_)); done)); (focus exact fun _ => rfl); (focus rfl); rotate_left; (focus (first | omega | (simp; done) | (simp; omega))))) | (focus (apply rw_el1 d; (focus ((repeat (first | exact .h _ | refine .t _ _ ?_)); done)); (focus exact fun _ => rfl); (focus rfl); rotate_left; (focus (first | omega | (simp; done) | (simp; omega))))) | (focus (apply rw_elN d; (focus ((repeat (first | exact .h _ | refine .t _ _ ?_)); done)); (focus exact fun _ => rfl); rotate_left; (focus (first | omega | (simp; done) | (simp; omega))))) | (focus (apply rw_fld0 d; (focus ((repeat (first | exact .h _ | refine .t _ _ ?_)); done)); (focus exact fun _ => rfl); (focus rfl); rotate_left; (focus (first | omega | (simp; done) | (simp; omega))))) | (focus (apply rw_el10 d; (focus ((repeat (first | exact .h _ | refine .t _ _ ?_)); done)); (focus exact fun _ => rfl); (focus rfl); rotate_left; (focus (first | omega | (simp; done) | (simp; omega))))) | (focus (apply rw_elN0 d; (focus ((repeat (first | exact .h _ | refine .t _ _ ?_)); done)); (focus exact fun _ => rfl); rotate_left; (focus (first | omega | (simp; done) | (simp; omega))))) | refine ch d ?_ | refine ch (D.tail d) ?_ | refine ch (D.tail (D.tail d)) ?_ | refine ch (D.tail (D.tail (D.tail d))) ?_ | refine qe _ (fun w d => max2_ok ⟨rfl, rfl⟩) ?_ | refine qe _ (fun w d => min2_ok ⟨rfl, rfl⟩) ?_ | refine max2_ok ?_ | refine min2_ok ?_ | refine bsl3 rfl rfl rfl d fun bn w d => ?_ | refine qe_op (fun _ _ => BinI_quo rfl) ?_ | refine qe_op (fun _ _ => BinI_rem rfl) ?_ | refine qe_op (fun _ _ => BinI_or) ?_ | refine qe_op (fun _ _ => BinI_and) ?_ | refine qe_op (fun _ _ => BinI_andNot) ?_ | refine qe_op (fun _ _ => BinI_shl) ?_ | refine qe_op (fun _ _ => BinI_shr) ?_)
  refine ⟨fun h1 => ?_, fun h1 => k0 (by omega)⟩
  repeat (first | refine drw d fun w d => ?_ | (simp +decide only [SEM]) | (apply ldm d; (focus ((repeat (first | exact .h _ | refine .t _ _ ?_)); done)); (focus rfl)) | (apply lam d; (focus ((repeat (first | exact .h _ | refine .t _ _ ?_)); done)); (focus rfl)) | (((repeat (refine bld_c rfl rfl (by simp) ?_; simp only [List.set_cons_zero, List.set_cons_succ])); refine bld_n ?_)) | (refine d_new _ d fun bn w d => ?_) | refine bsl1 (by first | rfl | (simp only [cells_agg, cells_int, cells_bool, cells_ptr, cells_sl, cells_map, cells_fn, List.drop_succ_cons, List.drop_zero, List.take_succ_cons, List.take_zero, Nat.zero_add, Nat.reduceAdd, Int.toNat_natCast, Int.toNat_zero]; rfl)) rfl d (by decide) (by decide) fun bn w d => ?_ | refine bsl2 rfl rfl d fun bn w d => ?_ | refine bsl0 d fun bn w d => ?_ | refine qt d ?_ | refine qe_nil ?_ | refine qe_fa ?_ | refine qe_len ?_ | (apply qlm; (focus ((repeat (first | exact .h _ | refine .t _ _ ?_)); done)); (focus rfl)) | (apply qam; (focus ((repeat (first | exact .h _ | refine .t _ _ ?_)); done)); (focus rfl)) | refine qe _ (fun w d => by ((repeat (refine bld_c rfl rfl (by simp) ?_; simp only [List.set_cons_zero, List.set_cons_succ])); refine bld_n ?_); exact ⟨rfl, rfl⟩) ?_ | refine qe_ext rfl ?_ | refine qe_op (fun _ _ => BinI_add) ?_ | refine qe_op (fun _ _ => BinI_sub) ?_ | refine qe_op (fun _ _ => BinI_mul) ?_ | refine qe_op (fun _ _ => BinI_eql) ?_ | refine qe_op (fun _ _ => BinI_neq) ?_ | refine qe_op (fun _ _ => BinI_lss) ?_ | refine qe_op (fun _ _ => BinI_leq) ?_ | refine qe_op (fun _ _ => BinI_gtr) ?_ | refine qe_op (fun _ _ => BinI_geq) ?_ | refine qe_op (fun _ _ => Un_not _) ?_ | refine qia (by first | omega | (simp; omega)) ?_ | refine qia0 (by first | omega | (simp; omega)) ?_ | (focus (apply qln; (focus ((repeat (first | exact .h _ | refine .t _ _ ?_)); done)); (focus exact fun _ => rfl); rotate_left; (focus (first | omega | (simp; done) | (simp; omega))))) | (focus (apply ql1; (focus ((repeat (first | exact .h _ | refine .t _ _ ?_)); done)); (focus exact fun _ => rfl); (focus rfl); rotate_left; (focus (first | omega | (simp; done) | (simp; omega))))) | (focus (apply ql0; (focus ((repeat (first | exact .h _ | refine .t _ _ ?_)); done)); (focus exact fun _ => rfl); (focus rfl); rotate_left; (focus (first | omega | (simp; done) | (simp; omega))))) | (apply swm d; (focus ((repeat (first | exact .h _ | apply Rp.t)); done)); (focus rfl); (focus rfl); (focus exact ones rfl); intro w d; simp only [SPL] at d) | (apply stm d; (focus ((repeat (first | exact .h _ | apply Rp.t)); done)); (focus rfl); (focus simp); (focus exact ones rfl); intro w d; simp only [SPL] at d) | (apply lpm d; (focus ((repeat (first | exact .h _ | refine .t _ _ ?_)); done)); (focus (simp only [SEM]; rfl)); (focus rfl)) | (focus (apply rw_fld d; (focus ((repeat (first | exact .h _ | refine .t _ _ ?_)); done)); (focus exact fun _ => rfl); (focus rfl); rotate_left; (focus (first | omega | (simp; done) | (simp; omega))))) | (focus (apply rw_el1 d; (focus ((repeat (first | exact .h _ | refine .t _ _ ?_)); done)); (focus exact fun _ => rfl); (focus rfl); rotate_left; (focus (first | omega | (simp; done) | (simp; omega))))) | (focus (apply rw_elN d; (focus ((repeat (first | exact .h _ | refine .t _ _ ?_)); done)); (focus exact fun _ => rfl); rotate_left; (focus (first | omega | (simp; done) | (simp; omega))))) | (focus (apply rw_fld0 d; (focus ((repeat (first | exact .h _ | refine .t _ _ ?_)); done)); (focus exact fun _ => rfl); (focus rfl); rotate_left; (focus (first | omega | (simp; done) | (simp; omega))))) | (focus (apply rw_el10 d; (focus ((repeat (first | exact .h _ | refine .t _ _ ?_)); done)); (focus exact fun _ => rfl); (focus rfl); rotate_left; (focus (first | omega | (simp; done) | (simp; omega))))) | (focus (apply rw_elN0 d; (focus ((repeat (first | exact .h _ | refine .t _ _ ?_)); done)); (focus exact fun _ => rfl); rotate_left; (focus (first | omega | (simp; done) | (simp; omega))))) | refine ch d ?_ | refine ch (D.tail d) ?_ | refine ch (D.tail (D.tail d)) ?_ | refine ch (D.tail (D.tail (D.tail d))) ?_ | refine qe _ (fun w d => max2_ok ⟨rfl, rfl⟩) ?_ | refine qe _ (fun w d => min2_ok ⟨rfl, rfl⟩) ?_ | refine max2_ok ?_ | refine min2_ok ?_ | refine bsl3 rfl rfl rfl d fun bn w d => ?_ | refine qe_op (fun _ _ => BinI_quo rfl) ?_ | refine qe_op (fun _ _ => BinI_rem rfl) ?_ | refine qe_op (fun _ _ => BinI_or) ?_ | refine qe_op (fun _ _ => BinI_and) ?_ | refine qe_op (fun _ _ => BinI_andNot) ?_ | refine qe_op (fun _ _ => BinI_shl) ?_ | refine qe_op (fun _ _ => BinI_shr) ?_)
  refine ⟨fun h2 => k0 (by omega), fun h2 => ?_⟩
  obtain ⟨q, rfl⟩ := Int.eq_ofNat_of_zero_le (a := kind) (by omega)
  obtain ⟨s, hs, he⟩ := hN q (by omega)
  refine iar12 (by omega) ?_
  refine old_ld1 d hm hs ?_
  refine k s ?_
  rw [he, decide_eq_decide]
  omega
theorem First_ok {kind : Int} (k : K (.int .i64 (frst kind)) w) : Cl pg 23 #[.int .i64 kind] K w := by
  refine V.signal_First_ok ?_
  unfold V.signal_First
  unfold frst at k
  repeat (first | refine drw d fun w d => ?_ | (simp +decide only [SEM]) | (apply ldm d; (focus ((repeat (first | exact .h _ | refine .t _ _ ?_)); done)); (focus rfl)) | (apply lam d; (focus ((repeat (first | exact .h _ | refine .t _ _ ?_)); done)); (focus rfl)) | (((repeat (refine bld_c rfl rfl (by simp) ?_; simp only [List.set_cons_zero, List.set_cons_succ])); refine bld_n ?_)) | (refine d_new _ d fun bn w d => ?_) | refine bsl1 (by first | rfl | (simp only [cells_agg, cells_int, cells_bool, cells_ptr, cells_sl, cells_map, cells_fn, List.drop_succ_cons, List.drop_zero, List.take_succ_cons, List.take_zero, Nat.zero_add, Nat.reduceAdd, Int.toNat_natCast, Int.toNat_zero]; rfl)) rfl d (by decide) (by decide) fun bn w d => ?_ | refine bsl2 rfl rfl d fun bn w d => ?_ | refine bsl0 d fun bn w d => ?_ | refine qt d ?_ | refine qe_nil ?_ | refine qe_fa ?_ | refine qe_len ?_ | (apply qlm; (focus ((repeat (first | exact .h _ | refine .t _ _ ?_)); done)); (focus rfl)) | (apply qam; (focus ((repeat (first | exact .h _ | refine .t _ _ ?_)); done)); (focus rfl)) | refine qe _ (fun w d => by ((repeat (refine bld_c rfl rfl (by simp) ?_; simp only [List.set_cons_zero, List.set_cons_succ])); refine bld_n ?_); exact ⟨rfl, rfl⟩) ?_ | refine qe_ext rfl ?_ | refine qe_op (fun _ _ => BinI_add) ?_ | refine qe_op (fun _ _ => BinI_sub) ?_ | refine qe_op (fun _ _ => BinI_mul) ?_ | refine qe_op (fun _ _ => BinI_eql) ?_ | refine qe_op (fun _ _ => BinI_neq) ?_ | refine qe_op (fun _ _ => BinI_lss) ?_ | refine qe_op (fun _ _ => BinI_leq) ?_ | refine qe_op (fun _ _ => BinI_gtr) ?_ | refine qe_op (fun _ _ => BinI_geq) ?_ | refine qe_op (fun _ _ => Un_not _) ?_ | refine qia (by first | omega | (simp; omega)) ?_ | refine qia0 (by first | omega | (simp; omega)) ?_ | (focus (apply qln; (focus ((repeat (first | exact .h _ | refine .t _ _ ?_)); done)); (focus exact fun _ => rfl); rotate_left; (focus (first | omega | (simp; done) | (simp; omega))))) | (focus (apply ql1; (focus ((repeat (first | exact .h _ | refine .t _ _ ?_)); done)); (focus exact fun _ => rfl); (focus rfl); rotate_left; (focus (first | omega | (simp; done) | (simp; omega))))) | (focus (apply ql0; (focus ((repeat (first | exact .h _ | refine .t _ _ ?_)); done)); (focus exact fun _ => rfl); (focus rfl); rotate_left; (focus (first | omega | (simp; done) | (simp; omega))))) | (apply swm d; (focus ((repeat (first | exact .h _ | apply Rp.t)); done)); (focus rfl); (focus rfl); (focus exact ones rfl); intro w d; simp only [SPL] at d) | (apply stm d; (focus ((repeat (first | exact .h _ | apply Rp.t)); done)); (focus rfl); (focus simp); (focus exact ones rfl); intro w d; simp only [SPL] at d) | (apply lpm d; (focus ((repeat (first | exact .h _ | refine .t _ _ ?_)); done)); (focus (simp only [SEM]; rfl)); (focus rfl)) | (focus (apply rw_fld d; (focus ((repeat (first | exact .h _ | refine .t _ _ ?_)); done)); (focus exact fun _ => rfl); (focus rfl); rotate_left; (focus (first | omega | (simp; done) | (simp; omega))))) | (focus (apply rw_el1 d; (focus ((repeat (first | exact .h _ | refine .t _ _ ?_)); done)); (focus exact fun _ => rfl); (focus rfl); rotate_left; (focus (first | omega | (simp; done) | (simp; omega))))) | (focus (apply rw_elN d; (focus ((repeat (first | exact .h _ | refine .t _ _ ?_)); done)); (focus exact fun _ => rfl); rotate_left; (focus (first | omega | (simp; done) | (simp; omega))))) | (focus (apply rw_fld0 d; (focus ((repeat (first | exact .h _ | refine .t _ _ ?_)); done)); (focus exact fun _ => rfl); (focus rfl); rotate_left; (focus (first | omega | (simp; done) | (simp; omega))))) | (focus (apply rw_el10 d; (focus ((repeat (first | exact .h _ | refine .t _ _ ?_)); done)); (focus exact fun _ => rfl); (focus rfl); rotate_left; (focus (first | omega | (simp; done) | (simp; omega))))) | (focus (apply rw_elN0 d; (focus ((repeat (first | exact .h _ | refine .t _ _ ?_)); done)); (focus exact fun _ => rfl); rotate_left; (focus (first | omega | (simp; done) | (simp; omega))))) | refine ch d ?_ | refine ch (D.tail d) ?_ | refine ch (D.tail (D.tail d)) ?_ | refine ch (D.tail (D.tail (D.tail d))) ?_ | refine qe _ (fun w d => max2_ok ⟨rfl, rfl⟩) ?_ | refine qe _ (fun w d => min2_ok ⟨rfl, rfl⟩) ?_ | refine max2_ok ?_ | refine min2_ok ?_ | refine bsl3 rfl rfl rfl d fun bn w d => ?_ | refine qe_op (fun _ _ => BinI_quo rfl) ?_ | refine qe_op (fun _ _ => BinI_rem rfl) ?_ | refine qe_op (fun _ _ => BinI_or) ?_ | refine qe_op (fun _ _ => BinI_and) ?_ | refine qe_op (fun _ _ => BinI_andNot) ?_ | refine qe_op (fun _ _ => BinI_shl) ?_ | refine qe_op (fun _ _ => BinI_shr) ?_)
  refine ⟨fun h4 => ?_, fun h4 => ?_⟩
  · rw [if_pos (.inl h4)] at k
    exact ⟨fun _ => k, fun h => absurd h4 h⟩
  · refine ⟨fun h5 => ?_, fun h5 => ?_⟩
    · rw [if_pos (.inr (.inl h5))] at k
      exact ⟨fun _ => k, fun h => absurd h5 h⟩
    · refine ⟨fun h6 => ?_, fun h6 => ?_⟩
      · rw [if_pos (.inr (.inr h6))] at k
        exact k
      · rw [if_neg (by omega)] at k
        refine ⟨fun h7 => ?_, fun h7 => ?_⟩
        · rw [if_pos h7] at k; exact k
        · rw [if_neg h7] at k; exact k
end
end Go.Proofs.YtbbenmflickapaaDoor
