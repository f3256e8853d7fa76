/- Memory: objects. -/
import Derived.Test.YtlcbfahjejgjlaaMc
import Derived.Test.YtlcbfahjejgjlaaSp
import Derived.Test.YtlcbfahjejgjlaaSz
set_option maxRecDepth 100000
set_option maxHeartbeats 8000000
namespace Go.Proofs.Ytlcbfahjejgjlaa
open Go Go.Jac
def nc (x : Int) : List Value := [.int .i64 x]
theorem nc_len (x : Int) : (nc x).length = 1 := rfl
theorem nc_map (l : List Int) : l.flatMap nc = l.map (Value.int .i64) := by
  induction l with
  | nil => rfl
  | cons a r ih => rw [List.flatMap_cons, ih]; rfl
theorem nc_one (l : List Int) : ∀ u ∈ l.flatMap nc, u.oneCell' = true := by
  intro u hu
  rw [nc_map] at hu
  obtain ⟨x, _, rfl⟩ := List.mem_map.1 hu
  rfl
/-- An object: hasf: it has a table of pages, at fb. -/
structure Vo where
  id : Int
  size : Int
  parent : Int
  hasf : Bool
  fb : Nat
  pl : List (Int × Nat)
  cv : Value
  ch : List Int
  sl : Bool
  from_ : Int
  depth : Int
  dr : Bool
  blk : Nat
def look (pl : List (Int × Nat)) (p : Int) : Option Nat := (pl.find? fun e => decide (e.1 = p)).map (·.2)
def fgM (pl : List (Int × Nat)) : Int → Option Value := fun p => (look pl p).map fun f => .int .i64 (f : Int)
def fmv (x : Vo) : Value := if x.hasf then .map (some x.fb) else .map none
def vcell (x : Vo) : List Value := [.int .i64 x.size, .int .i64 x.parent, fmv x, x.cv, .bool x.sl, .int .i64 x.from_, .int .i64 x.depth, .bool x.dr]
def fmp (x : Vo) : HP := if x.hasf then Mp x.fb (fgM x.pl) x.pl.length else sat []
def vob (x : Vo) : HP := sat [cel x.blk 65 (vcell x), Rw 3 1 x.cv x.ch.length (x.ch.flatMap nc), fmp x]
def vfind (M : List Vo) (id : Int) : Option Vo := M.find? fun x => decide (x.id = id)
def rmV (id : Int) (M : List Vo) : List Vo := M.filter fun x => decide (x.id ≠ id)
def vmap (M : List Vo) : Int → Option Value := fun k => (vfind M k).map fun x => .pointer (some ⟨x.blk, 0, none⟩)
def Nv (M : List Vo) : Prop := (M.map (·.id)).Nodup
theorem vfind_id {M : List Vo} {id : Int} {x : Vo} (h : vfind M id = some x) : x.id = id ∧ x ∈ M := by
  have h1 := List.find?_some h
  exact ⟨by simpa using h1, List.mem_of_find?_eq_some h⟩
theorem vfind_cons (M : List Vo) (x : Vo) (id : Int) : vfind (x :: M) id = if x.id = id then some x else vfind M id := by
  unfold vfind
  rw [List.find?_cons]
  by_cases h : x.id = id <;> simp [h]
theorem vfind_rm (M : List Vo) (a id : Int) : vfind (rmV a M) id = if a = id then none else vfind M id := by
  unfold vfind rmV
  rw [List.find?_filter]
  split
  · rename_i h
    subst h
    rw [List.find?_eq_none]
    intro x _
    simp
  · rename_i h
    congr 1
    funext x
    by_cases hx : x.id = id
    · have h' : ¬ id = a := fun e => h e.symm
      simp [hx, h']
    · simp [hx]
theorem Nv.rm {M : List Vo} (h : Nv M) (id : Int) : Nv (rmV id M) := by
  unfold Nv rmV at *
  exact List.Nodup.sublist ((List.filter_sublist).map _) h
theorem rmv_none {M : List Vo} {id : Int} (h : vfind M id = none) : rmV id M = M := by
  unfold rmV
  refine List.filter_eq_self.2 fun x hx => ?_
  unfold vfind at h
  rw [List.find?_eq_none] at h
  simpa using h x hx
/-- One is taken out. -/
theorem rmv_perm {M : List Vo} {id : Int} {x : Vo} (hn : Nv M) (h : vfind M id = some x) : M.Perm (x :: rmV id M) := by
  induction M with
  | nil => simp [vfind] at h
  | cons y r ih =>
    have hn' : y.id ∉ r.map (·.id) ∧ Nv r := by unfold Nv at hn; rwa [List.map_cons, List.nodup_cons] at hn
    rw [vfind_cons] at h
    by_cases hy : y.id = id
    · rw [if_pos hy] at h
      obtain rfl := Option.some.inj h
      have e : rmV id (y :: r) = r := by
        unfold rmV
        rw [List.filter_cons_of_neg (by simp [hy])]
        refine List.filter_eq_self.2 fun z hz => ?_
        simp only [decide_eq_true_eq]
        intro e
        exact hn'.1 (List.mem_map.2 ⟨z, hz, e.trans hy.symm⟩)
      rw [e]
    · rw [if_neg hy] at h
      have e : rmV id (y :: r) = y :: rmV id r := by
        unfold rmV
        rw [List.filter_cons_of_pos (by simp [hy])]
      rw [e]
      exact ((ih hn'.2 h).cons y).trans (List.Perm.swap x y _)
theorem Nv.set {M : List Vo} {x : Vo} (h : Nv M) : Nv (x :: rmV x.id M) := by
  have h1 := h.rm x.id
  unfold Nv at *
  rw [List.map_cons, List.nodup_cons]
  refine ⟨fun hm => ?_, h1⟩
  obtain ⟨y, hy, e⟩ := List.mem_map.1 hm
  unfold rmV at hy
  have := (List.mem_filter.1 hy).2
  simp at this
  exact this e
theorem setv_len {M : List Vo} {x y : Vo} {id : Int} (hn : Nv M) (h : vfind M id = some x) : (y :: rmV id M).length = M.length := by
  have := (rmv_perm hn h).length_eq
  simpa using this.symm
theorem rmv_len {M : List Vo} {x : Vo} {id : Int} (hn : Nv M) (h : vfind M id = some x) : (rmV id M).length + 1 = M.length := by
  have := (rmv_perm hn h).length_eq
  simpa using this.symm
theorem vmap_set {M : List Vo} {x y : Vo} {id : Int} (h : vfind M id = some x) (hi : y.id = id) (hb : y.blk = x.blk) : vmap (y :: rmV id M) = vmap M := by
  funext k
  unfold vmap
  rw [vfind_cons, vfind_rm]
  by_cases e : id = k
  · subst e
    rw [if_pos hi, h]
    simp [hb]
  · rw [if_neg (by rw [hi]; exact e), if_neg e]
theorem vmap_rm (M : List Vo) (id : Int) : vmap (rmV id M) = del (vmap M) id := by
  funext k
  unfold vmap del
  rw [vfind_rm]
  by_cases e : id = k
  · subst e; simp
  · rw [if_neg e, if_neg (fun h => e h.symm)]
theorem vmap_add (M : List Vo) (x : Vo) : vmap (x :: M) = upd (vmap M) x.id (.pointer (some ⟨x.blk, 0, none⟩)) := by
  funext k
  unfold vmap upd
  rw [vfind_cons]
  by_cases e : x.id = k
  · subst e; simp
  · rw [if_neg e, if_neg (fun h => e h.symm)]
theorem rmv_mem {S : List Vo} {id : Int} {x : Vo} : x ∈ rmV id S ↔ x ∈ S ∧ x.id ≠ id := by
  unfold rmV
  simp [List.mem_filter]
theorem vfind_upd {S : List Vo} {id : Int} {y : Vo} (hi : y.id = id) (a : Int) : vfind (y :: rmV id S) a = if a = id then some y else vfind S a := by
  rw [vfind_cons, vfind_rm, hi]
  by_cases e : id = a
  · subst e; simp
  · rw [if_neg e, if_neg e, if_neg (fun h => e h.symm)]
theorem vfind_mem {S : List Vo} (hn : Nv S) {x : Vo} (hx : x ∈ S) : vfind S x.id = some x := by
  unfold vfind
  induction S with
  | nil => cases hx
  | cons z r ih =>
    unfold Nv at hn
    rw [List.map_cons, List.nodup_cons] at hn
    rw [List.find?_cons]
    rcases List.mem_cons.1 hx with rfl | h
    · simp
    · have : z.id ≠ x.id := fun e => hn.1 (List.mem_map.2 ⟨x, h, e.symm⟩)
      simp only [this, decide_false]
      exact ih hn.2 h
/-- A set's parts. -/
def VL (b m pb : Nat) (last most cap : Int) (F : List Fr) (M : List Vo) : List HP :=
  [cel b 60 [.pointer (some ⟨pb, 0, none⟩), .map (some m), .int .i64 most, .int .i64 last], Pl pb cap F, Mp m (vmap M) M.length, sat (M.map vob)]
def Vs (b : Nat) (last most cap : Int) (F : List Fr) (M : List Vo) : HP := ex fun (q : Nat × Nat) => sat (VL b q.1 q.2 last most cap F M)
section
variable {w0 w : World} {L : List HP} {K : Value → WP} {b m pb : Nat} {last most cap : Int} {F : List Fr} {M : List Vo}
theorem Vs.out (d : D w0 (Vs b last most cap F M :: L) w) : ∃ m pb, D w0 (cel b 60 [.pointer (some ⟨pb, 0, none⟩), .map (some m), .int .i64 most, .int .i64 last] :: Pl pb cap F :: Mp m (vmap M) M.length :: sat (M.map vob) :: L) w := by
  obtain ⟨q, d⟩ := d.ex
  exact ⟨q.1, q.2, d.opens⟩
theorem Vs.mk (d : D w0 (cel b 60 [.pointer (some ⟨pb, 0, none⟩), .map (some m), .int .i64 most, .int .i64 last] :: Pl pb cap F :: Mp m (vmap M) M.length :: sat (M.map vob) :: L) w) : D w0 (Vs b last most cap F M :: L) w :=
  D.mk_ex (A := fun (q : Nat × Nat) => sat (VL b q.1 q.2 last most cap F M)) (m, pb) (D.close (M := VL b m pb last most cap F M) d)
theorem vone_out {x : Vo} {id : Int} (hn : Nv M) (h : vfind M id = some x) (d : D w0 (sat (M.map vob) :: L) w) : D w0 (cel x.blk 65 (vcell x) :: Rw 3 1 x.cv x.ch.length (x.ch.flatMap nc) :: fmp x :: sat ((rmV id M).map vob) :: L) w :=
  (D.take1 (rmv_perm hn h) d).opens
theorem vone_in {y : Vo} {R : List Vo} (d : D w0 (cel y.blk 65 (vcell y) :: Rw 3 1 y.cv y.ch.length (y.ch.flatMap nc) :: fmp y :: sat (R.map vob) :: L) w) : D w0 (sat ((y :: R).map vob) :: L) w :=
  D.put1 (List.Perm.refl _) (D.close (M := [_, _, _]) d)
theorem vone_back {x : Vo} {id : Int} (hn : Nv M) (h : vfind M id = some x) (d : D w0 (cel x.blk 65 (vcell x) :: Rw 3 1 x.cv x.ch.length (x.ch.flatMap nc) :: fmp x :: sat ((rmV id M).map vob) :: L) w) : D w0 (sat (M.map vob) :: L) w :=
  D.put1 (rmv_perm hn h) (D.close (M := [_, _, _]) d)
theorem vmap_get {M : List Vo} {id : Int} : (vmap M id).getD (.pointer none) = match vfind M id with | some x => .pointer (some ⟨x.blk, 0, none⟩) | none => .pointer none := by
  unfold vmap
  cases vfind M id <;> rfl
theorem vmap_some {M : List Vo} {id : Int} {x : Vo} (h : vfind M id = some x) : (vmap M id).getD (.pointer none) = .pointer (some ⟨x.blk, 0, none⟩) := by rw [vmap_get, h]
theorem vmap_none {M : List Vo} {id : Int} (h : vfind M id = none) : (vmap M id).getD (.pointer none) = .pointer none := by rw [vmap_get, h]
theorem Nv.upd {x y : Vo} {id : Int} (hn : Nv M) (hi : y.id = id) : Nv (y :: rmV id M) := by
  subst hi; exact hn.set
/-- An object that was not dropped. -/
def live (M : List Vo) (id : Int) : Option Vo := match vfind M id with | some x => if x.dr then none else some x | none => none
theorem live_some {M : List Vo} {id : Int} {x : Vo} (h : live M id = some x) : vfind M id = some x ∧ x.dr = false := by
  unfold live at h
  split at h
  · rename_i y hy
    split at h
    · cases h
    · rename_i hd
      obtain rfl := Option.some.inj h
      exact ⟨hy, by simpa using hd⟩
  · cases h
theorem qe_lkv {B : Value → WP} {id : Int} (hi : In (Mp m (vmap M) M.length) L) (k : B ((vmap M id).getD (.pointer none)) w) : QE (D w0 L) (fun KK => Ex pg (Instr.lookup 58 (.map (some m)) (.int .i64 id) false) fun v => KK v) B w :=
  qe _ (fun _ d => lkm1_ok Try.underlying58 Try.underlying3 (z := .pointer none) (by kernel_rfl) d hi ⟨rfl, rfl⟩) k
theorem vfind_ok {id : Int} (hn : Nv M) (d : D w0 (cel b 60 [.pointer (some ⟨pb, 0, none⟩), .map (some m), .int .i64 most, .int .i64 last] :: Pl pb cap F :: Mp m (vmap M) M.length :: sat (M.map vob) :: L) w)
    (k0 : live M id = none → ∀ w', D w0 (cel b 60 [.pointer (some ⟨pb, 0, none⟩), .map (some m), .int .i64 most, .int .i64 last] :: Pl pb cap F :: Mp m (vmap M) M.length :: sat (M.map vob) :: L) w' → K (.pointer none) w')
    (k1 : ∀ x, live M id = some x → ∀ w', D w0 (cel b 60 [.pointer (some ⟨pb, 0, none⟩), .map (some m), .int .i64 most, .int .i64 last] :: Pl pb cap F :: Mp m (vmap M) M.length :: sat (M.map vob) :: L) w' → K (.pointer (some ⟨x.blk, 0, none⟩)) w') :
    Cl pg 27 #[.pointer (some ⟨b, 0, none⟩), .int .i64 id] K w := by
  refine V.vmo_Set_find_ok ?_
  unfold V.vmo_Set_find
  repeat (first | refine drw d fun w d => ?_ | (simp +decide only [SEM]) | (apply ldm d; (focus ((repeat (first | exact .h _ | refine .t _ _ ?_)); done)); (focus rfl)) | (apply lam d; (focus ((repeat (first | exact .h _ | refine .t _ _ ?_)); done)); (focus rfl)) | (((repeat (refine bld_c rfl rfl (by simp) ?_; simp only [List.set_cons_zero, List.set_cons_succ])); refine bld_n ?_)) | (refine d_new _ d fun bn w d => ?_) | refine bsl1 (by first | rfl | (simp only [cells_agg, cells_int, cells_bool, cells_ptr, cells_sl, cells_map, cells_fn, List.drop_succ_cons, List.drop_zero, List.take_succ_cons, List.take_zero, Nat.zero_add, Nat.reduceAdd, Int.toNat_natCast, Int.toNat_zero]; rfl)) rfl d (by decide) (by decide) fun bn w d => ?_ | refine bsl2 rfl rfl d fun bn w d => ?_ | refine bsl0 d fun bn w d => ?_ | refine qt d ?_ | refine qe_nil ?_ | refine qe_fa ?_ | refine qe_len ?_ | (apply qlm; (focus ((repeat (first | exact .h _ | refine .t _ _ ?_)); done)); (focus rfl)) | (apply qam; (focus ((repeat (first | exact .h _ | refine .t _ _ ?_)); done)); (focus rfl)) | refine qe _ (fun w d => by ((repeat (refine bld_c rfl rfl (by simp) ?_; simp only [List.set_cons_zero, List.set_cons_succ])); refine bld_n ?_); exact ⟨rfl, rfl⟩) ?_ | refine qe_ext rfl ?_ | refine qe_op (fun _ _ => BinI_add) ?_ | refine qe_op (fun _ _ => BinI_sub) ?_ | refine qe_op (fun _ _ => BinI_mul) ?_ | refine qe_op (fun _ _ => BinI_eql) ?_ | refine qe_op (fun _ _ => BinI_neq) ?_ | refine qe_op (fun _ _ => BinI_lss) ?_ | refine qe_op (fun _ _ => BinI_leq) ?_ | refine qe_op (fun _ _ => BinI_gtr) ?_ | refine qe_op (fun _ _ => BinI_geq) ?_ | refine qe_op (fun _ _ => Un_not _) ?_ | refine qia (by first | omega | (simp; omega)) ?_ | refine qia0 (by first | omega | (simp; omega)) ?_ | (focus (apply qln; (focus ((repeat (first | exact .h _ | refine .t _ _ ?_)); done)); (focus exact fun _ => rfl); rotate_left; (focus (first | omega | (simp; done) | (simp; omega))))) | (focus (apply ql1; (focus ((repeat (first | exact .h _ | refine .t _ _ ?_)); done)); (focus exact fun _ => rfl); (focus rfl); rotate_left; (focus (first | omega | (simp; done) | (simp; omega))))) | (focus (apply ql0; (focus ((repeat (first | exact .h _ | refine .t _ _ ?_)); done)); (focus exact fun _ => rfl); (focus rfl); rotate_left; (focus (first | omega | (simp; done) | (simp; omega))))) | (apply swm d; (focus ((repeat (first | exact .h _ | apply Rp.t)); done)); (focus rfl); (focus rfl); (focus exact ones rfl); intro w d; simp only [SPL] at d) | (apply stm d; (focus ((repeat (first | exact .h _ | apply Rp.t)); done)); (focus rfl); (focus simp); (focus exact ones rfl); intro w d; simp only [SPL] at d) | (apply lpm d; (focus ((repeat (first | exact .h _ | refine .t _ _ ?_)); done)); (focus (simp only [SEM]; rfl)); (focus rfl)) | (focus (apply rw_fld d; (focus ((repeat (first | exact .h _ | refine .t _ _ ?_)); done)); (focus exact fun _ => rfl); (focus rfl); rotate_left; (focus (first | omega | (simp; done) | (simp; omega))))) | (focus (apply rw_el1 d; (focus ((repeat (first | exact .h _ | refine .t _ _ ?_)); done)); (focus exact fun _ => rfl); (focus rfl); rotate_left; (focus (first | omega | (simp; done) | (simp; omega))))) | (focus (apply rw_elN d; (focus ((repeat (first | exact .h _ | refine .t _ _ ?_)); done)); (focus exact fun _ => rfl); rotate_left; (focus (first | omega | (simp; done) | (simp; omega))))) | (focus (apply rw_fld0 d; (focus ((repeat (first | exact .h _ | refine .t _ _ ?_)); done)); (focus exact fun _ => rfl); (focus rfl); rotate_left; (focus (first | omega | (simp; done) | (simp; omega))))) | (focus (apply rw_el10 d; (focus ((repeat (first | exact .h _ | refine .t _ _ ?_)); done)); (focus exact fun _ => rfl); (focus rfl); rotate_left; (focus (first | omega | (simp; done) | (simp; omega))))) | (focus (apply rw_elN0 d; (focus ((repeat (first | exact .h _ | refine .t _ _ ?_)); done)); (focus exact fun _ => rfl); rotate_left; (focus (first | omega | (simp; done) | (simp; omega))))) | refine ch d ?_ | refine ch (D.tail d) ?_ | refine ch (D.tail (D.tail d)) ?_ | refine ch (D.tail (D.tail (D.tail d))) ?_ | refine qe _ (fun w d => max2_ok ⟨rfl, rfl⟩) ?_ | refine qe _ (fun w d => min2_ok ⟨rfl, rfl⟩) ?_ | refine max2_ok ?_ | refine min2_ok ?_ | refine bsl3 rfl rfl rfl d fun bn w d => ?_ | refine qe_op (fun _ _ => BinI_quo rfl) ?_ | refine qe_op (fun _ _ => BinI_rem rfl) ?_ | refine qe_op (fun _ _ => BinI_or) ?_ | refine qe_op (fun _ _ => BinI_and) ?_ | refine qe_op (fun _ _ => BinI_andNot) ?_ | refine qe_op (fun _ _ => BinI_shl) ?_ | refine qe_op (fun _ _ => BinI_shr) ?_)
  refine lkm1_ok Try.underlying58 Try.underlying3 (z := .pointer none) (by kernel_rfl) d (.t _ _ (.t _ _ (.h _))) ?_
  cases hx : vfind M id with
  | none =>
    rw [vmap_none hx]
    repeat (first | refine drw d fun w d => ?_ | (simp +decide only [SEM]) | (apply ldm d; (focus ((repeat (first | exact .h _ | refine .t _ _ ?_)); done)); (focus rfl)) | (apply lam d; (focus ((repeat (first | exact .h _ | refine .t _ _ ?_)); done)); (focus rfl)) | (((repeat (refine bld_c rfl rfl (by simp) ?_; simp only [List.set_cons_zero, List.set_cons_succ])); refine bld_n ?_)) | (refine d_new _ d fun bn w d => ?_) | refine bsl1 (by first | rfl | (simp only [cells_agg, cells_int, cells_bool, cells_ptr, cells_sl, cells_map, cells_fn, List.drop_succ_cons, List.drop_zero, List.take_succ_cons, List.take_zero, Nat.zero_add, Nat.reduceAdd, Int.toNat_natCast, Int.toNat_zero]; rfl)) rfl d (by decide) (by decide) fun bn w d => ?_ | refine bsl2 rfl rfl d fun bn w d => ?_ | refine bsl0 d fun bn w d => ?_ | refine qt d ?_ | refine qe_nil ?_ | refine qe_fa ?_ | refine qe_len ?_ | (apply qlm; (focus ((repeat (first | exact .h _ | refine .t _ _ ?_)); done)); (focus rfl)) | (apply qam; (focus ((repeat (first | exact .h _ | refine .t _ _ ?_)); done)); (focus rfl)) | refine qe _ (fun w d => by ((repeat (refine bld_c rfl rfl (by simp) ?_; simp only [List.set_cons_zero, List.set_cons_succ])); refine bld_n ?_); exact ⟨rfl, rfl⟩) ?_ | refine qe_ext rfl ?_ | refine qe_op (fun _ _ => BinI_add) ?_ | refine qe_op (fun _ _ => BinI_sub) ?_ | refine qe_op (fun _ _ => BinI_mul) ?_ | refine qe_op (fun _ _ => BinI_eql) ?_ | refine qe_op (fun _ _ => BinI_neq) ?_ | refine qe_op (fun _ _ => BinI_lss) ?_ | refine qe_op (fun _ _ => BinI_leq) ?_ | refine qe_op (fun _ _ => BinI_gtr) ?_ | refine qe_op (fun _ _ => BinI_geq) ?_ | refine qe_op (fun _ _ => Un_not _) ?_ | refine qia (by first | omega | (simp; omega)) ?_ | refine qia0 (by first | omega | (simp; omega)) ?_ | (focus (apply qln; (focus ((repeat (first | exact .h _ | refine .t _ _ ?_)); done)); (focus exact fun _ => rfl); rotate_left; (focus (first | omega | (simp; done) | (simp; omega))))) | (focus (apply ql1; (focus ((repeat (first | exact .h _ | refine .t _ _ ?_)); done)); (focus exact fun _ => rfl); (focus rfl); rotate_left; (focus (first | omega | (simp; done) | (simp; omega))))) | (focus (apply ql0; (focus ((repeat (first | exact .h _ | refine .t _ _ ?_)); done)); (focus exact fun _ => rfl); (focus rfl); rotate_left; (focus (first | omega | (simp; done) | (simp; omega))))) | (apply swm d; (focus ((repeat (first | exact .h _ | apply Rp.t)); done)); (focus rfl); (focus rfl); (focus exact ones rfl); intro w d; simp only [SPL] at d) | (apply stm d; (focus ((repeat (first | exact .h _ | apply Rp.t)); done)); (focus rfl); (focus simp); (focus exact ones rfl); intro w d; simp only [SPL] at d) | (apply lpm d; (focus ((repeat (first | exact .h _ | refine .t _ _ ?_)); done)); (focus (simp only [SEM]; rfl)); (focus rfl)) | (focus (apply rw_fld d; (focus ((repeat (first | exact .h _ | refine .t _ _ ?_)); done)); (focus exact fun _ => rfl); (focus rfl); rotate_left; (focus (first | omega | (simp; done) | (simp; omega))))) | (focus (apply rw_el1 d; (focus ((repeat (first | exact .h _ | refine .t _ _ ?_)); done)); (focus exact fun _ => rfl); (focus rfl); rotate_left; (focus (first | omega | (simp; done) | (simp; omega))))) | (focus (apply rw_elN d; (focus ((repeat (first | exact .h _ | refine .t _ _ ?_)); done)); (focus exact fun _ => rfl); rotate_left; (focus (first | omega | (simp; done) | (simp; omega))))) | (focus (apply rw_fld0 d; (focus ((repeat (first | exact .h _ | refine .t _ _ ?_)); done)); (focus exact fun _ => rfl); (focus rfl); rotate_left; (focus (first | omega | (simp; done) | (simp; omega))))) | (focus (apply rw_el10 d; (focus ((repeat (first | exact .h _ | refine .t _ _ ?_)); done)); (focus exact fun _ => rfl); (focus rfl); rotate_left; (focus (first | omega | (simp; done) | (simp; omega))))) | (focus (apply rw_elN0 d; (focus ((repeat (first | exact .h _ | refine .t _ _ ?_)); done)); (focus exact fun _ => rfl); rotate_left; (focus (first | omega | (simp; done) | (simp; omega))))) | refine ch d ?_ | refine ch (D.tail d) ?_ | refine ch (D.tail (D.tail d)) ?_ | refine ch (D.tail (D.tail (D.tail d))) ?_ | refine qe _ (fun w d => max2_ok ⟨rfl, rfl⟩) ?_ | refine qe _ (fun w d => min2_ok ⟨rfl, rfl⟩) ?_ | refine max2_ok ?_ | refine min2_ok ?_ | refine bsl3 rfl rfl rfl d fun bn w d => ?_ | refine qe_op (fun _ _ => BinI_quo rfl) ?_ | refine qe_op (fun _ _ => BinI_rem rfl) ?_ | refine qe_op (fun _ _ => BinI_or) ?_ | refine qe_op (fun _ _ => BinI_and) ?_ | refine qe_op (fun _ _ => BinI_andNot) ?_ | refine qe_op (fun _ _ => BinI_shl) ?_ | refine qe_op (fun _ _ => BinI_shr) ?_)
    exact k0 (by unfold live; rw [hx]) w d
  | some x =>
    rw [vmap_some hx]
    repeat (first | refine drw d fun w d => ?_ | (simp +decide only [SEM]) | (apply ldm d; (focus ((repeat (first | exact .h _ | refine .t _ _ ?_)); done)); (focus rfl)) | (apply lam d; (focus ((repeat (first | exact .h _ | refine .t _ _ ?_)); done)); (focus rfl)) | (((repeat (refine bld_c rfl rfl (by simp) ?_; simp only [List.set_cons_zero, List.set_cons_succ])); refine bld_n ?_)) | (refine d_new _ d fun bn w d => ?_) | refine bsl1 (by first | rfl | (simp only [cells_agg, cells_int, cells_bool, cells_ptr, cells_sl, cells_map, cells_fn, List.drop_succ_cons, List.drop_zero, List.take_succ_cons, List.take_zero, Nat.zero_add, Nat.reduceAdd, Int.toNat_natCast, Int.toNat_zero]; rfl)) rfl d (by decide) (by decide) fun bn w d => ?_ | refine bsl2 rfl rfl d fun bn w d => ?_ | refine bsl0 d fun bn w d => ?_ | refine qt d ?_ | refine qe_nil ?_ | refine qe_fa ?_ | refine qe_len ?_ | (apply qlm; (focus ((repeat (first | exact .h _ | refine .t _ _ ?_)); done)); (focus rfl)) | (apply qam; (focus ((repeat (first | exact .h _ | refine .t _ _ ?_)); done)); (focus rfl)) | refine qe _ (fun w d => by ((repeat (refine bld_c rfl rfl (by simp) ?_; simp only [List.set_cons_zero, List.set_cons_succ])); refine bld_n ?_); exact ⟨rfl, rfl⟩) ?_ | refine qe_ext rfl ?_ | refine qe_op (fun _ _ => BinI_add) ?_ | refine qe_op (fun _ _ => BinI_sub) ?_ | refine qe_op (fun _ _ => BinI_mul) ?_ | refine qe_op (fun _ _ => BinI_eql) ?_ | refine qe_op (fun _ _ => BinI_neq) ?_ | refine qe_op (fun _ _ => BinI_lss) ?_ | refine qe_op (fun _ _ => BinI_leq) ?_ | refine qe_op (fun _ _ => BinI_gtr) ?_ | refine qe_op (fun _ _ => BinI_geq) ?_ | refine qe_op (fun _ _ => Un_not _) ?_ | refine qia (by first | omega | (simp; omega)) ?_ | refine qia0 (by first | omega | (simp; omega)) ?_ | (focus (apply qln; (focus ((repeat (first | exact .h _ | refine .t _ _ ?_)); done)); (focus exact fun _ => rfl); rotate_left; (focus (first | omega | (simp; done) | (simp; omega))))) | (focus (apply ql1; (focus ((repeat (first | exact .h _ | refine .t _ _ ?_)); done)); (focus exact fun _ => rfl); (focus rfl); rotate_left; (focus (first | omega | (simp; done) | (simp; omega))))) | (focus (apply ql0; (focus ((repeat (first | exact .h _ | refine .t _ _ ?_)); done)); (focus exact fun _ => rfl); (focus rfl); rotate_left; (focus (first | omega | (simp; done) | (simp; omega))))) | (apply swm d; (focus ((repeat (first | exact .h _ | apply Rp.t)); done)); (focus rfl); (focus rfl); (focus exact ones rfl); intro w d; simp only [SPL] at d) | (apply stm d; (focus ((repeat (first | exact .h _ | apply Rp.t)); done)); (focus rfl); (focus simp); (focus exact ones rfl); intro w d; simp only [SPL] at d) | (apply lpm d; (focus ((repeat (first | exact .h _ | refine .t _ _ ?_)); done)); (focus (simp only [SEM]; rfl)); (focus rfl)) | (focus (apply rw_fld d; (focus ((repeat (first | exact .h _ | refine .t _ _ ?_)); done)); (focus exact fun _ => rfl); (focus rfl); rotate_left; (focus (first | omega | (simp; done) | (simp; omega))))) | (focus (apply rw_el1 d; (focus ((repeat (first | exact .h _ | refine .t _ _ ?_)); done)); (focus exact fun _ => rfl); (focus rfl); rotate_left; (focus (first | omega | (simp; done) | (simp; omega))))) | (focus (apply rw_elN d; (focus ((repeat (first | exact .h _ | refine .t _ _ ?_)); done)); (focus exact fun _ => rfl); rotate_left; (focus (first | omega | (simp; done) | (simp; omega))))) | (focus (apply rw_fld0 d; (focus ((repeat (first | exact .h _ | refine .t _ _ ?_)); done)); (focus exact fun _ => rfl); (focus rfl); rotate_left; (focus (first | omega | (simp; done) | (simp; omega))))) | (focus (apply rw_el10 d; (focus ((repeat (first | exact .h _ | refine .t _ _ ?_)); done)); (focus exact fun _ => rfl); (focus rfl); rotate_left; (focus (first | omega | (simp; done) | (simp; omega))))) | (focus (apply rw_elN0 d; (focus ((repeat (first | exact .h _ | refine .t _ _ ?_)); done)); (focus exact fun _ => rfl); rotate_left; (focus (first | omega | (simp; done) | (simp; omega))))) | refine ch d ?_ | refine ch (D.tail d) ?_ | refine ch (D.tail (D.tail d)) ?_ | refine ch (D.tail (D.tail (D.tail d))) ?_ | refine qe _ (fun w d => max2_ok ⟨rfl, rfl⟩) ?_ | refine qe _ (fun w d => min2_ok ⟨rfl, rfl⟩) ?_ | refine max2_ok ?_ | refine min2_ok ?_ | refine bsl3 rfl rfl rfl d fun bn w d => ?_ | refine qe_op (fun _ _ => BinI_quo rfl) ?_ | refine qe_op (fun _ _ => BinI_rem rfl) ?_ | refine qe_op (fun _ _ => BinI_or) ?_ | refine qe_op (fun _ _ => BinI_and) ?_ | refine qe_op (fun _ _ => BinI_andNot) ?_ | refine qe_op (fun _ _ => BinI_shl) ?_ | refine qe_op (fun _ _ => BinI_shr) ?_)
    have d := vone_out hn hx (D.sel [3] d)
    simp only [vcell] at d
    repeat (first | refine drw d fun w d => ?_ | (simp +decide only [SEM]) | (apply ldm d; (focus ((repeat (first | exact .h _ | refine .t _ _ ?_)); done)); (focus rfl)) | (apply lam d; (focus ((repeat (first | exact .h _ | refine .t _ _ ?_)); done)); (focus rfl)) | (((repeat (refine bld_c rfl rfl (by simp) ?_; simp only [List.set_cons_zero, List.set_cons_succ])); refine bld_n ?_)) | (refine d_new _ d fun bn w d => ?_) | refine bsl1 (by first | rfl | (simp only [cells_agg, cells_int, cells_bool, cells_ptr, cells_sl, cells_map, cells_fn, List.drop_succ_cons, List.drop_zero, List.take_succ_cons, List.take_zero, Nat.zero_add, Nat.reduceAdd, Int.toNat_natCast, Int.toNat_zero]; rfl)) rfl d (by decide) (by decide) fun bn w d => ?_ | refine bsl2 rfl rfl d fun bn w d => ?_ | refine bsl0 d fun bn w d => ?_ | refine qt d ?_ | refine qe_nil ?_ | refine qe_fa ?_ | refine qe_len ?_ | (apply qlm; (focus ((repeat (first | exact .h _ | refine .t _ _ ?_)); done)); (focus rfl)) | (apply qam; (focus ((repeat (first | exact .h _ | refine .t _ _ ?_)); done)); (focus rfl)) | refine qe _ (fun w d => by ((repeat (refine bld_c rfl rfl (by simp) ?_; simp only [List.set_cons_zero, List.set_cons_succ])); refine bld_n ?_); exact ⟨rfl, rfl⟩) ?_ | refine qe_ext rfl ?_ | refine qe_op (fun _ _ => BinI_add) ?_ | refine qe_op (fun _ _ => BinI_sub) ?_ | refine qe_op (fun _ _ => BinI_mul) ?_ | refine qe_op (fun _ _ => BinI_eql) ?_ | refine qe_op (fun _ _ => BinI_neq) ?_ | refine qe_op (fun _ _ => BinI_lss) ?_ | refine qe_op (fun _ _ => BinI_leq) ?_ | refine qe_op (fun _ _ => BinI_gtr) ?_ | refine qe_op (fun _ _ => BinI_geq) ?_ | refine qe_op (fun _ _ => Un_not _) ?_ | refine qia (by first | omega | (simp; omega)) ?_ | refine qia0 (by first | omega | (simp; omega)) ?_ | (focus (apply qln; (focus ((repeat (first | exact .h _ | refine .t _ _ ?_)); done)); (focus exact fun _ => rfl); rotate_left; (focus (first | omega | (simp; done) | (simp; omega))))) | (focus (apply ql1; (focus ((repeat (first | exact .h _ | refine .t _ _ ?_)); done)); (focus exact fun _ => rfl); (focus rfl); rotate_left; (focus (first | omega | (simp; done) | (simp; omega))))) | (focus (apply ql0; (focus ((repeat (first | exact .h _ | refine .t _ _ ?_)); done)); (focus exact fun _ => rfl); (focus rfl); rotate_left; (focus (first | omega | (simp; done) | (simp; omega))))) | (apply swm d; (focus ((repeat (first | exact .h _ | apply Rp.t)); done)); (focus rfl); (focus rfl); (focus exact ones rfl); intro w d; simp only [SPL] at d) | (apply stm d; (focus ((repeat (first | exact .h _ | apply Rp.t)); done)); (focus rfl); (focus simp); (focus exact ones rfl); intro w d; simp only [SPL] at d) | (apply lpm d; (focus ((repeat (first | exact .h _ | refine .t _ _ ?_)); done)); (focus (simp only [SEM]; rfl)); (focus rfl)) | (focus (apply rw_fld d; (focus ((repeat (first | exact .h _ | refine .t _ _ ?_)); done)); (focus exact fun _ => rfl); (focus rfl); rotate_left; (focus (first | omega | (simp; done) | (simp; omega))))) | (focus (apply rw_el1 d; (focus ((repeat (first | exact .h _ | refine .t _ _ ?_)); done)); (focus exact fun _ => rfl); (focus rfl); rotate_left; (focus (first | omega | (simp; done) | (simp; omega))))) | (focus (apply rw_elN d; (focus ((repeat (first | exact .h _ | refine .t _ _ ?_)); done)); (focus exact fun _ => rfl); rotate_left; (focus (first | omega | (simp; done) | (simp; omega))))) | (focus (apply rw_fld0 d; (focus ((repeat (first | exact .h _ | refine .t _ _ ?_)); done)); (focus exact fun _ => rfl); (focus rfl); rotate_left; (focus (first | omega | (simp; done) | (simp; omega))))) | (focus (apply rw_el10 d; (focus ((repeat (first | exact .h _ | refine .t _ _ ?_)); done)); (focus exact fun _ => rfl); (focus rfl); rotate_left; (focus (first | omega | (simp; done) | (simp; omega))))) | (focus (apply rw_elN0 d; (focus ((repeat (first | exact .h _ | refine .t _ _ ?_)); done)); (focus exact fun _ => rfl); rotate_left; (focus (first | omega | (simp; done) | (simp; omega))))) | refine ch d ?_ | refine ch (D.tail d) ?_ | refine ch (D.tail (D.tail d)) ?_ | refine ch (D.tail (D.tail (D.tail d))) ?_ | refine qe _ (fun w d => max2_ok ⟨rfl, rfl⟩) ?_ | refine qe _ (fun w d => min2_ok ⟨rfl, rfl⟩) ?_ | refine max2_ok ?_ | refine min2_ok ?_ | refine bsl3 rfl rfl rfl d fun bn w d => ?_ | refine qe_op (fun _ _ => BinI_quo rfl) ?_ | refine qe_op (fun _ _ => BinI_rem rfl) ?_ | refine qe_op (fun _ _ => BinI_or) ?_ | refine qe_op (fun _ _ => BinI_and) ?_ | refine qe_op (fun _ _ => BinI_andNot) ?_ | refine qe_op (fun _ _ => BinI_shl) ?_ | refine qe_op (fun _ _ => BinI_shr) ?_)
    cases hd : x.dr with
    | true =>
      repeat (first | refine drw d fun w d => ?_ | (simp +decide only [SEM]) | (apply ldm d; (focus ((repeat (first | exact .h _ | refine .t _ _ ?_)); done)); (focus rfl)) | (apply lam d; (focus ((repeat (first | exact .h _ | refine .t _ _ ?_)); done)); (focus rfl)) | (((repeat (refine bld_c rfl rfl (by simp) ?_; simp only [List.set_cons_zero, List.set_cons_succ])); refine bld_n ?_)) | (refine d_new _ d fun bn w d => ?_) | refine bsl1 (by first | rfl | (simp only [cells_agg, cells_int, cells_bool, cells_ptr, cells_sl, cells_map, cells_fn, List.drop_succ_cons, List.drop_zero, List.take_succ_cons, List.take_zero, Nat.zero_add, Nat.reduceAdd, Int.toNat_natCast, Int.toNat_zero]; rfl)) rfl d (by decide) (by decide) fun bn w d => ?_ | refine bsl2 rfl rfl d fun bn w d => ?_ | refine bsl0 d fun bn w d => ?_ | refine qt d ?_ | refine qe_nil ?_ | refine qe_fa ?_ | refine qe_len ?_ | (apply qlm; (focus ((repeat (first | exact .h _ | refine .t _ _ ?_)); done)); (focus rfl)) | (apply qam; (focus ((repeat (first | exact .h _ | refine .t _ _ ?_)); done)); (focus rfl)) | refine qe _ (fun w d => by ((repeat (refine bld_c rfl rfl (by simp) ?_; simp only [List.set_cons_zero, List.set_cons_succ])); refine bld_n ?_); exact ⟨rfl, rfl⟩) ?_ | refine qe_ext rfl ?_ | refine qe_op (fun _ _ => BinI_add) ?_ | refine qe_op (fun _ _ => BinI_sub) ?_ | refine qe_op (fun _ _ => BinI_mul) ?_ | refine qe_op (fun _ _ => BinI_eql) ?_ | refine qe_op (fun _ _ => BinI_neq) ?_ | refine qe_op (fun _ _ => BinI_lss) ?_ | refine qe_op (fun _ _ => BinI_leq) ?_ | refine qe_op (fun _ _ => BinI_gtr) ?_ | refine qe_op (fun _ _ => BinI_geq) ?_ | refine qe_op (fun _ _ => Un_not _) ?_ | refine qia (by first | omega | (simp; omega)) ?_ | refine qia0 (by first | omega | (simp; omega)) ?_ | (focus (apply qln; (focus ((repeat (first | exact .h _ | refine .t _ _ ?_)); done)); (focus exact fun _ => rfl); rotate_left; (focus (first | omega | (simp; done) | (simp; omega))))) | (focus (apply ql1; (focus ((repeat (first | exact .h _ | refine .t _ _ ?_)); done)); (focus exact fun _ => rfl); (focus rfl); rotate_left; (focus (first | omega | (simp; done) | (simp; omega))))) | (focus (apply ql0; (focus ((repeat (first | exact .h _ | refine .t _ _ ?_)); done)); (focus exact fun _ => rfl); (focus rfl); rotate_left; (focus (first | omega | (simp; done) | (simp; omega))))) | (apply swm d; (focus ((repeat (first | exact .h _ | apply Rp.t)); done)); (focus rfl); (focus rfl); (focus exact ones rfl); intro w d; simp only [SPL] at d) | (apply stm d; (focus ((repeat (first | exact .h _ | apply Rp.t)); done)); (focus rfl); (focus simp); (focus exact ones rfl); intro w d; simp only [SPL] at d) | (apply lpm d; (focus ((repeat (first | exact .h _ | refine .t _ _ ?_)); done)); (focus (simp only [SEM]; rfl)); (focus rfl)) | (focus (apply rw_fld d; (focus ((repeat (first | exact .h _ | refine .t _ _ ?_)); done)); (focus exact fun _ => rfl); (focus rfl); rotate_left; (focus (first | omega | (simp; done) | (simp; omega))))) | (focus (apply rw_el1 d; (focus ((repeat (first | exact .h _ | refine .t _ _ ?_)); done)); (focus exact fun _ => rfl); (focus rfl); rotate_left; (focus (first | omega | (simp; done) | (simp; omega))))) | (focus (apply rw_elN d; (focus ((repeat (first | exact .h _ | refine .t _ _ ?_)); done)); (focus exact fun _ => rfl); rotate_left; (focus (first | omega | (simp; done) | (simp; omega))))) | (focus (apply rw_fld0 d; (focus ((repeat (first | exact .h _ | refine .t _ _ ?_)); done)); (focus exact fun _ => rfl); (focus rfl); rotate_left; (focus (first | omega | (simp; done) | (simp; omega))))) | (focus (apply rw_el10 d; (focus ((repeat (first | exact .h _ | refine .t _ _ ?_)); done)); (focus exact fun _ => rfl); (focus rfl); rotate_left; (focus (first | omega | (simp; done) | (simp; omega))))) | (focus (apply rw_elN0 d; (focus ((repeat (first | exact .h _ | refine .t _ _ ?_)); done)); (focus exact fun _ => rfl); rotate_left; (focus (first | omega | (simp; done) | (simp; omega))))) | refine ch d ?_ | refine ch (D.tail d) ?_ | refine ch (D.tail (D.tail d)) ?_ | refine ch (D.tail (D.tail (D.tail d))) ?_ | refine qe _ (fun w d => max2_ok ⟨rfl, rfl⟩) ?_ | refine qe _ (fun w d => min2_ok ⟨rfl, rfl⟩) ?_ | refine max2_ok ?_ | refine min2_ok ?_ | refine bsl3 rfl rfl rfl d fun bn w d => ?_ | refine qe_op (fun _ _ => BinI_quo rfl) ?_ | refine qe_op (fun _ _ => BinI_rem rfl) ?_ | refine qe_op (fun _ _ => BinI_or) ?_ | refine qe_op (fun _ _ => BinI_and) ?_ | refine qe_op (fun _ _ => BinI_andNot) ?_ | refine qe_op (fun _ _ => BinI_shl) ?_ | refine qe_op (fun _ _ => BinI_shr) ?_)
      exact k0 (by unfold live; rw [hx]; simp [hd]) w (D.sel [1, 2, 3, 0] (vone_back hn hx (by simp only [vcell]; exact d)))
    | false =>
      repeat (first | refine drw d fun w d => ?_ | (simp +decide only [SEM]) | (apply ldm d; (focus ((repeat (first | exact .h _ | refine .t _ _ ?_)); done)); (focus rfl)) | (apply lam d; (focus ((repeat (first | exact .h _ | refine .t _ _ ?_)); done)); (focus rfl)) | (((repeat (refine bld_c rfl rfl (by simp) ?_; simp only [List.set_cons_zero, List.set_cons_succ])); refine bld_n ?_)) | (refine d_new _ d fun bn w d => ?_) | refine bsl1 (by first | rfl | (simp only [cells_agg, cells_int, cells_bool, cells_ptr, cells_sl, cells_map, cells_fn, List.drop_succ_cons, List.drop_zero, List.take_succ_cons, List.take_zero, Nat.zero_add, Nat.reduceAdd, Int.toNat_natCast, Int.toNat_zero]; rfl)) rfl d (by decide) (by decide) fun bn w d => ?_ | refine bsl2 rfl rfl d fun bn w d => ?_ | refine bsl0 d fun bn w d => ?_ | refine qt d ?_ | refine qe_nil ?_ | refine qe_fa ?_ | refine qe_len ?_ | (apply qlm; (focus ((repeat (first | exact .h _ | refine .t _ _ ?_)); done)); (focus rfl)) | (apply qam; (focus ((repeat (first | exact .h _ | refine .t _ _ ?_)); done)); (focus rfl)) | refine qe _ (fun w d => by ((repeat (refine bld_c rfl rfl (by simp) ?_; simp only [List.set_cons_zero, List.set_cons_succ])); refine bld_n ?_); exact ⟨rfl, rfl⟩) ?_ | refine qe_ext rfl ?_ | refine qe_op (fun _ _ => BinI_add) ?_ | refine qe_op (fun _ _ => BinI_sub) ?_ | refine qe_op (fun _ _ => BinI_mul) ?_ | refine qe_op (fun _ _ => BinI_eql) ?_ | refine qe_op (fun _ _ => BinI_neq) ?_ | refine qe_op (fun _ _ => BinI_lss) ?_ | refine qe_op (fun _ _ => BinI_leq) ?_ | refine qe_op (fun _ _ => BinI_gtr) ?_ | refine qe_op (fun _ _ => BinI_geq) ?_ | refine qe_op (fun _ _ => Un_not _) ?_ | refine qia (by first | omega | (simp; omega)) ?_ | refine qia0 (by first | omega | (simp; omega)) ?_ | (focus (apply qln; (focus ((repeat (first | exact .h _ | refine .t _ _ ?_)); done)); (focus exact fun _ => rfl); rotate_left; (focus (first | omega | (simp; done) | (simp; omega))))) | (focus (apply ql1; (focus ((repeat (first | exact .h _ | refine .t _ _ ?_)); done)); (focus exact fun _ => rfl); (focus rfl); rotate_left; (focus (first | omega | (simp; done) | (simp; omega))))) | (focus (apply ql0; (focus ((repeat (first | exact .h _ | refine .t _ _ ?_)); done)); (focus exact fun _ => rfl); (focus rfl); rotate_left; (focus (first | omega | (simp; done) | (simp; omega))))) | (apply swm d; (focus ((repeat (first | exact .h _ | apply Rp.t)); done)); (focus rfl); (focus rfl); (focus exact ones rfl); intro w d; simp only [SPL] at d) | (apply stm d; (focus ((repeat (first | exact .h _ | apply Rp.t)); done)); (focus rfl); (focus simp); (focus exact ones rfl); intro w d; simp only [SPL] at d) | (apply lpm d; (focus ((repeat (first | exact .h _ | refine .t _ _ ?_)); done)); (focus (simp only [SEM]; rfl)); (focus rfl)) | (focus (apply rw_fld d; (focus ((repeat (first | exact .h _ | refine .t _ _ ?_)); done)); (focus exact fun _ => rfl); (focus rfl); rotate_left; (focus (first | omega | (simp; done) | (simp; omega))))) | (focus (apply rw_el1 d; (focus ((repeat (first | exact .h _ | refine .t _ _ ?_)); done)); (focus exact fun _ => rfl); (focus rfl); rotate_left; (focus (first | omega | (simp; done) | (simp; omega))))) | (focus (apply rw_elN d; (focus ((repeat (first | exact .h _ | refine .t _ _ ?_)); done)); (focus exact fun _ => rfl); rotate_left; (focus (first | omega | (simp; done) | (simp; omega))))) | (focus (apply rw_fld0 d; (focus ((repeat (first | exact .h _ | refine .t _ _ ?_)); done)); (focus exact fun _ => rfl); (focus rfl); rotate_left; (focus (first | omega | (simp; done) | (simp; omega))))) | (focus (apply rw_el10 d; (focus ((repeat (first | exact .h _ | refine .t _ _ ?_)); done)); (focus exact fun _ => rfl); (focus rfl); rotate_left; (focus (first | omega | (simp; done) | (simp; omega))))) | (focus (apply rw_elN0 d; (focus ((repeat (first | exact .h _ | refine .t _ _ ?_)); done)); (focus exact fun _ => rfl); rotate_left; (focus (first | omega | (simp; done) | (simp; omega))))) | refine ch d ?_ | refine ch (D.tail d) ?_ | refine ch (D.tail (D.tail d)) ?_ | refine ch (D.tail (D.tail (D.tail d))) ?_ | refine qe _ (fun w d => max2_ok ⟨rfl, rfl⟩) ?_ | refine qe _ (fun w d => min2_ok ⟨rfl, rfl⟩) ?_ | refine max2_ok ?_ | refine min2_ok ?_ | refine bsl3 rfl rfl rfl d fun bn w d => ?_ | refine qe_op (fun _ _ => BinI_quo rfl) ?_ | refine qe_op (fun _ _ => BinI_rem rfl) ?_ | refine qe_op (fun _ _ => BinI_or) ?_ | refine qe_op (fun _ _ => BinI_and) ?_ | refine qe_op (fun _ _ => BinI_andNot) ?_ | refine qe_op (fun _ _ => BinI_shl) ?_ | refine qe_op (fun _ _ => BinI_shr) ?_)
      exact k1 x (by unfold live; rw [hx]; simp [hd]) w (D.sel [1, 2, 3, 0] (vone_back hn hx (by simp only [vcell]; exact d)))
end
end Go.Proofs.Ytlcbfahjejgjlaa
