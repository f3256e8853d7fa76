/- Memory: sets, what is told of objects, one more object. -/
import Derived.Test.YtlcbfahjejgjlaaMd
set_option maxRecDepth 100000
set_option maxHeartbeats 8000000
namespace Go.Proofs.Ytlcbfahjejgjlaa
open Go Go.Jac
section
variable {w0 w : World} {L : List HP} {K : Value → WP} {b m pb : Nat} {last most cap : Int} {F : List Fr} {M : List Vo}
theorem VNew_ok {n : Int} (hc : 0 ≤ cap ∧ cap ≤ 65536) (hn : 0 ≤ n ∧ n ≤ 65536) (d : D w0 L w) (k : ∀ b w', D w0 (Vs b 0 n cap [] [] :: L) w' → K (.pointer (some ⟨b, 0, none⟩)) w') : Cl pg 8 #[.int .i64 cap, .int .i64 n] K w := by
  refine V.vmo_New_ok ?_
  unfold V.vmo_New
  refine fn10 (fun _ _ => rfl) (New_ok hc d fun pb w d => ?_)
  repeat (simp +decide only [SEM])
  refine ⟨fun _ => ?_, fun h => by omega⟩
  refine ⟨fun h => by omega, fun _ => ?_⟩
  refine mmk_ok d fun m w d => ?_
  repeat (first | (simp +decide only [SEM]) | (((repeat (refine bld_c rfl rfl (by simp) ?_; simp only [List.set_cons_zero, List.set_cons_succ])); refine bld_n ?_)) | (refine d_new _ d fun bn w d => ?_))
  refine k _ _ (Vs.mk (m := m) (pb := pb) (M := []) ?_)
  have d := D.nil_sat (α := Vo) (f := vob) d
  exact D.sel [1, 3, 2, 0] d
theorem VNew_no {n : Int} (hc : ¬ (0 ≤ cap ∧ cap ≤ 65536)) (d : D w0 L w) (k : ∀ w', D w0 L w' → K (.pointer none) w') : Cl pg 8 #[.int .i64 cap, .int .i64 n] K w := by
  refine V.vmo_New_ok ?_
  unfold V.vmo_New
  refine fn10 (fun _ _ => rfl) (New_no hc d fun w d => ?_)
  repeat (simp +decide only [SEM])
  exact k w d
theorem VCount_ok (d : D w0 (Vs b last most cap F M :: L) w) (k : ∀ w', D w0 (Vs b last most cap F M :: L) w' → K (.int .i64 M.length) w') : Cl pg 20 #[.pointer (some ⟨b, 0, none⟩)] K w := by
  refine V.vmo_Set_Count_ok ?_
  unfold V.vmo_Set_Count
  obtain ⟨m, pb, d⟩ := Vs.out d
  repeat (first | (simp +decide only [SEM]) | (apply ldm d; (focus ((repeat (first | exact .h _ | refine .t _ _ ?_)); done)); (focus rfl)))
  refine mlenm_ok Try.underlying58 d (.t _ _ (.t _ _ (.h _))) ?_
  exact k w (Vs.mk d)
theorem VRoom_ok (hc : 0 ≤ cap ∧ cap ≤ 65536) (hu : usedF F ≤ 65536) (d : D w0 (Vs b last most cap F M :: L) w) (k : ∀ w', D w0 (Vs b last most cap F M :: L) w' → K (.int .i64 (cap - usedF F)) w') : Cl pg 19 #[.pointer (some ⟨b, 0, none⟩)] K w := by
  refine V.vmo_Set_Room_ok ?_
  unfold V.vmo_Set_Room
  obtain ⟨m, pb, d⟩ := Vs.out d
  repeat (first | (simp +decide only [SEM]) | (apply ldm d; (focus ((repeat (first | exact .h _ | refine .t _ _ ?_)); done)); (focus rfl)))
  refine fn10 (fun _ _ => rfl) (Room_ok hc hu (D.sel [1] d) fun w d => ?_)
  exact k w (Vs.mk (m := m) (pb := pb) d.swap)
theorem size_ok {n : Int} (k0 : n < 0 → K (.tuple #[.int .i64 0, .int .i64 (-10)]) w) (k1 : 4294967296 < n → K (.tuple #[.int .i64 0, .int .i64 (-14)]) w) (k2 : 0 ≤ n → n ≤ 4294967296 → K (.tuple #[.int .i64 ((n + 63) / 64 * 64), .int .i64 0]) w) : Cl pg 25 #[.int .i64 n] K w := by
  refine V.vmo_size_ok ?_
  unfold V.vmo_size
  repeat (simp +decide only [SEM])
  refine ⟨k0, fun h => ⟨k1, fun h2 => ?_⟩⟩
  refine fn20 (fun _ _ => rfl) (Up_ok (by omega) ?_)
  repeat (simp +decide only [SEM])
  exact k2 (by omega) (by omega)
theorem mlen_nil {P : Program} {t kt et ty : TypeId} (ht : P.underlying t = some (.map kt et)) (k : K (.int .i64 0) w) : Ex P (Builtin.len_ #[t] ty #[.map none]) K w := by
  refine ⟨_, w, ?_, k⟩
  unfold Builtin.len_
  simp [run_underlying ht, goInt]
theorem VInfo_no {id : Int} (hx : vfind M id = none) (d : D w0 (Vs b last most cap F M :: L) w) (k : ∀ w', D w0 (Vs b last most cap F M :: L) w' → K (.tuple #[.agg #[.int .i64 0, .int .i64 0, .int .i64 0, .int .i64 0, .bool false, .bool false], .bool false]) w') :
    Cl pg 17 #[.pointer (some ⟨b, 0, none⟩), .int .i64 id] K w := by
  refine V.vmo_Set_Info_ok ?_
  unfold V.vmo_Set_Info
  obtain ⟨m, pb, d⟩ := Vs.out d
  repeat (first | (simp +decide only [SEM]) | (apply ldm d; (focus ((repeat (first | exact .h _ | refine .t _ _ ?_)); done)); (focus rfl)) | (refine d_new _ d fun bn w d => ?_))
  refine lkm1_ok Try.underlying58 Try.underlying3 (z := .pointer none) (by kernel_rfl) d (.t _ _ (.t _ _ (.t _ _ (.h _)))) ?_
  rw [vmap_none hx]
  repeat (first | (simp +decide only [SEM]) | (apply lam d; (focus ((repeat (first | exact .h _ | refine .t _ _ ?_)); done)); (focus rfl)) | (((repeat (refine bld_c rfl rfl (by simp) ?_; simp only [List.set_cons_zero, List.set_cons_succ])); refine bld_n ?_)) | (apply swm d; (focus ((repeat (first | exact .h _ | apply Rp.t)); done)); (focus rfl); (focus rfl); (focus exact ones rfl); intro w d; simp only [SPL] at d))
  exact k w (Vs.mk (m := m) (pb := pb) d.tail)
theorem VInfo_ok {id : Int} {x : Vo} (hn : Nv M) (hx : vfind M id = some x) (hp : x.hasf = false → x.pl = []) (d : D w0 (Vs b last most cap F M :: L) w)
    (k : ∀ w', D w0 (Vs b last most cap F M :: L) w' → K (.tuple #[.agg #[.int .i64 x.size, .int .i64 x.parent, .int .i64 x.ch.length, .int .i64 x.pl.length, .bool x.sl, .bool x.dr], .bool true]) w') :
    Cl pg 17 #[.pointer (some ⟨b, 0, none⟩), .int .i64 id] K w := by
  refine V.vmo_Set_Info_ok ?_
  unfold V.vmo_Set_Info
  obtain ⟨m, pb, d⟩ := Vs.out d
  repeat (first | (simp +decide only [SEM]) | (apply ldm d; (focus ((repeat (first | exact .h _ | refine .t _ _ ?_)); done)); (focus rfl)) | (refine d_new _ d fun bn w d => ?_))
  refine lkm1_ok Try.underlying58 Try.underlying3 (z := .pointer none) (by kernel_rfl) d (.t _ _ (.t _ _ (.t _ _ (.h _)))) ?_
  rw [vmap_some hx]
  have d := vone_out hn hx (D.sel [4] d)
  obtain ⟨q, c, hq, -⟩ := Rw.shape d.swap.1
  have fin : ∀ w', D w0 (cel x.blk 65 (vcell x) :: Rw 3 1 x.cv x.ch.length (x.ch.flatMap nc) :: fmp x :: sat ((rmV id M).map vob) :: cel bn 39 [.int .i64 x.size, .int .i64 x.parent, .int .i64 x.ch.length, .int .i64 x.pl.length, .bool x.sl, .bool x.dr] :: cel b 60 [.pointer (some ⟨pb, 0, none⟩), .map (some m), .int .i64 most, .int .i64 last] :: Pl pb cap F :: Mp m (vmap M) M.length :: L) w' →
      K (.tuple #[.agg #[.int .i64 x.size, .int .i64 x.parent, .int .i64 x.ch.length, .int .i64 x.pl.length, .bool x.sl, .bool x.dr], .bool true]) w' := fun w' d' => k w' (Vs.mk (m := m) (pb := pb) (D.sel [1, 2, 3, 4, 0] (vone_back hn hx d')).tail)
  cases hh : x.hasf with
  | true =>
    have hv : vcell x = [.int .i64 x.size, .int .i64 x.parent, .map (some x.fb), .slice q x.ch.length c, .bool x.sl, .int .i64 x.from_, .int .i64 x.depth, .bool x.dr] := by simp [vcell, fmv, hh, hq]
    have hf : fmp x = Mp x.fb (fgM x.pl) x.pl.length := by unfold fmp; rw [hh]; rfl
    rw [hv, hf] at fin d
    repeat (first | refine drw d fun w d => ?_ | (simp +decide only [SEM]) | refine qt d ?_ | refine qe_nil ?_ | refine qe_len ?_ | (apply qlm; (focus ((repeat (first | exact .h _ | refine .t _ _ ?_)); done)); (focus rfl)))
    refine qe _ (fun w d => mlenm_ok Try.underlying63 d (.t _ _ (.t _ _ (.h _))) ⟨rfl, rfl⟩) ?_
    repeat (first | (apply lam d; (focus ((repeat (first | exact .h _ | refine .t _ _ ?_)); done)); (focus rfl)) | (((repeat (refine bld_c rfl rfl (by simp) ?_; simp only [List.set_cons_zero, List.set_cons_succ])); refine bld_n ?_)) | refine qe_nil ?_ | (apply qlm; (focus ((repeat (first | exact .h _ | refine .t _ _ ?_)); done)); (focus rfl)) | (apply swm d; (focus ((repeat (first | exact .h _ | apply Rp.t)); done)); (focus rfl); (focus rfl); (focus exact ones rfl); intro w d; simp only [SPL] at d))
    exact fin _ d
  | false =>
    have hv : vcell x = [.int .i64 x.size, .int .i64 x.parent, .map none, .slice q x.ch.length c, .bool x.sl, .int .i64 x.from_, .int .i64 x.depth, .bool x.dr] := by simp [vcell, fmv, hh, hq]
    rw [hv] at fin d
    rw [hp hh] at fin
    repeat (first | refine drw d fun w d => ?_ | (simp +decide only [SEM]) | refine qt d ?_ | refine qe_nil ?_ | refine qe_len ?_ | (apply qlm; (focus ((repeat (first | exact .h _ | refine .t _ _ ?_)); done)); (focus rfl)))
    refine qe _ (fun w d => mlen_nil Try.underlying63 ⟨rfl, rfl⟩) ?_
    repeat (first | (apply lam d; (focus ((repeat (first | exact .h _ | refine .t _ _ ?_)); done)); (focus rfl)) | (((repeat (refine bld_c rfl rfl (by simp) ?_; simp only [List.set_cons_zero, List.set_cons_succ])); refine bld_n ?_)) | refine qe_nil ?_ | (apply qlm; (focus ((repeat (first | exact .h _ | refine .t _ _ ?_)); done)); (focus rfl)) | (apply swm d; (focus ((repeat (first | exact .h _ | apply Rp.t)); done)); (focus rfl); (focus rfl); (focus exact ones rfl); intro w d; simp only [SPL] at d))
    exact fin _ d
/-- One more object; its parent tells it. -/
def addM (M : List Vo) (y : Vo) (v : Value) : List Vo := match vfind M y.parent with
  | none => y :: M
  | some up => { up with cv := v, ch := up.ch ++ [y.id] } :: rmV y.parent (y :: M)
theorem add_no {x : Value} (hl : most ≤ M.length) (d : D w0 (cel b 60 [.pointer (some ⟨pb, 0, none⟩), .map (some m), .int .i64 most, .int .i64 last] :: Pl pb cap F :: Mp m (vmap M) M.length :: sat (M.map vob) :: L) w)
    (k : ∀ w', D w0 (cel b 60 [.pointer (some ⟨pb, 0, none⟩), .map (some m), .int .i64 most, .int .i64 last] :: Pl pb cap F :: Mp m (vmap M) M.length :: sat (M.map vob) :: L) w' → K (.tuple #[.int .i64 0, .int .i64 (-4)]) w') : Cl pg 26 #[.pointer (some ⟨b, 0, none⟩), x] K w := by
  refine V.vmo_Set_add_ok ?_
  unfold V.vmo_Set_add
  repeat (first | refine drw d fun w d => ?_ | refine qt d ?_ | refine qe_nil ?_ | (apply qlm; (focus ((repeat (first | exact .h _ | refine .t _ _ ?_)); done)); (focus rfl)))
  refine qe _ (fun w d => mlenm_ok Try.underlying58 d (.t _ _ (.t _ _ (.h _))) ⟨rfl, rfl⟩) ?_
  repeat (first | (simp +decide only [SEM]) | refine qe_nil ?_ | (apply qlm; (focus ((repeat (first | exact .h _ | refine .t _ _ ?_)); done)); (focus rfl)))
  refine ⟨fun _ => k _ d, fun h => by omega⟩
theorem add_ok {y : Vo} (hn : Nv M) (hl : (M.length : Int) < most) (hla : 0 ≤ last ∧ last < 1000000) (hyi : y.id = last + 1) (hno : vfind M (last + 1) = none) (hyp : y.parent ≠ last + 1) (hch : ∀ x ∈ M, x.ch.length ≤ 1000000)
    (d : D w0 (cel y.blk 65 (vcell y) :: Rw 3 1 y.cv y.ch.length (y.ch.flatMap nc) :: fmp y :: cel b 60 [.pointer (some ⟨pb, 0, none⟩), .map (some m), .int .i64 most, .int .i64 last] :: Pl pb cap F :: Mp m (vmap M) M.length :: sat (M.map vob) :: L) w)
    (k : ∀ v w', D w0 (cel b 60 [.pointer (some ⟨pb, 0, none⟩), .map (some m), .int .i64 most, .int .i64 (last + 1)] :: Pl pb cap F :: Mp m (vmap (addM M y v)) (addM M y v).length :: sat ((addM M y v).map vob) :: L) w' → K (.tuple #[.int .i64 (last + 1), .int .i64 0]) w') :
    Cl pg 26 #[.pointer (some ⟨b, 0, none⟩), .pointer (some ⟨y.blk, 0, none⟩)] K w := by
  refine V.vmo_Set_add_ok ?_
  unfold V.vmo_Set_add
  have hv : vcell y = [.int .i64 y.size, .int .i64 y.parent, fmv y, y.cv, .bool y.sl, .int .i64 y.from_, .int .i64 y.depth, .bool y.dr] := rfl
  rw [hv] at d
  repeat (first | refine drw d fun w d => ?_ | refine qt d ?_ | refine qe_nil ?_ | (apply qlm; (focus ((repeat (first | exact .h _ | refine .t _ _ ?_)); done)); (focus rfl)))
  refine qe _ (fun w d => mlenm_ok Try.underlying58 d (.t _ _ (.t _ _ (.t _ _ (.t _ _ (.t _ _ (.h _)))))) ⟨rfl, rfl⟩) ?_
  repeat (first | (simp +decide only [SEM]) | refine qe_nil ?_ | (apply qlm; (focus ((repeat (first | exact .h _ | refine .t _ _ ?_)); done)); (focus rfl)))
  refine ⟨fun h => by omega, fun _ => ?_⟩
  repeat (first | refine drw d fun w d => ?_ | (simp +decide only [SEM]) | (apply ldm d; (focus ((repeat (first | exact .h _ | refine .t _ _ ?_)); done)); (focus rfl)) | refine qt d ?_ | refine qe_nil ?_ | (apply qlm; (focus ((repeat (first | exact .h _ | refine .t _ _ ?_)); done)); (focus rfl)) | (apply stm d; (focus ((repeat (first | exact .h _ | apply Rp.t)); done)); (focus rfl); (focus simp); (focus exact ones rfl); intro w d; simp only [SPL] at d))
  rw [w64 (by omega) (by omega)] at d ⊢
  skip
  refine mupm_ok Try.underlying58 Try.underlying3 d (.t _ _ _ (.t _ _ _ (.t _ _ _ (.t _ _ _ (.t _ _ _ (.h _)))))) fun w d => ?_
  have e1 : (vmap M (last + 1)).isSome = false := by unfold vmap; rw [hno]; rfl
  rw [e1] at d
  have e2 : upd (vmap M) (last + 1) (.pointer (some ⟨y.blk, 0, none⟩)) = vmap (y :: M) := by rw [vmap_add, hyi]
  rw [e2] at d
  repeat (first | refine drw d fun w d => ?_ | (simp +decide only [SEM]) | refine qt d ?_ | refine qe_nil ?_ | (apply qlm; (focus ((repeat (first | exact .h _ | refine .t _ _ ?_)); done)); (focus rfl)))
  refine lkm1_ok Try.underlying58 Try.underlying3 (z := .pointer none) (by kernel_rfl) d (.t _ _ (.t _ _ (.t _ _ (.t _ _ (.t _ _ (.h _)))))) ?_
  rw [← hv] at d
  have d := vone_in (y := y) (R := M) (D.sel [0, 1, 2, 6] d)
  have hvf : vfind (y :: M) y.parent = vfind M y.parent := by rw [vfind_cons, if_neg (by rw [hyi]; exact fun e => hyp e.symm)]
  have hnv : Nv (y :: M) := by
    unfold Nv at hn ⊢
    rw [List.map_cons, List.nodup_cons]
    refine ⟨fun hm => ?_, hn⟩
    obtain ⟨z, hz, e⟩ := List.mem_map.1 hm
    unfold vfind at hno
    rw [List.find?_eq_none] at hno
    exact hno z hz (by simp only [e, hyi, decide_true])
  cases hup : vfind M y.parent with
  | none =>
    have ea : ∀ v, addM M y v = y :: M := fun v => by unfold addM; rw [hup]
    rw [vmap_none (hvf.trans hup)]
    repeat (first | (simp +decide only [SEM]) | (apply ldm d; (focus ((repeat (first | exact .h _ | refine .t _ _ ?_)); done)); (focus rfl)))
    have := k (.slice none 0 0) w
    rw [ea] at this
    exact this (D.sel [1, 2, 3, 0] d)
  | some up =>
    have ea : ∀ v, addM M y v = { up with cv := v, ch := up.ch ++ [y.id] } :: rmV y.parent (y :: M) := fun v => by unfold addM; rw [hup]
    rw [vmap_some (hvf.trans hup)]
    have hchl := hch up (vfind_id hup).2
    have d := vone_out hnv (hvf.trans hup) d
    have hv2 : vcell up = [.int .i64 up.size, .int .i64 up.parent, fmv up, up.cv, .bool up.sl, .int .i64 up.from_, .int .i64 up.depth, .bool up.dr] := rfl
    rw [hv2] at d
    obtain ⟨q, c, hq, -⟩ := Rw.shape d.swap.1
    rw [hq] at d
    repeat (first | refine drw d fun w d => ?_ | (simp +decide only [SEM]) | refine bsl1 (by first | rfl | (simp only [cells_agg, cells_int, cells_bool, cells_ptr, cells_sl, cells_map, cells_fn, List.drop_succ_cons, List.drop_zero, List.take_succ_cons, List.take_zero, Nat.zero_add, Nat.reduceAdd, Int.toNat_natCast, Int.toNat_zero]; rfl)) rfl d (by decide) (by decide) fun bn w d => ?_ | refine qt d ?_ | refine qe_nil ?_ | (apply qlm; (focus ((repeat (first | exact .h _ | refine .t _ _ ?_)); done)); (focus rfl)) | refine ch (D.tail d) ?_)
    generalize bn = bz at d ⊢
    refine d_app (m := 1) (D.sel [2] d) (src_of (gc1 (D.sel [2] d)) rfl (ones rfl) 1) rfl (by omega) (by omega) (by omega) (ones rfl) fun sv' w d => ?_
    obtain ⟨q2, c2, rfl, -⟩ := Rw.shape d.1
    repeat (first | (simp +decide only [SEM]) | (apply ldm d; (focus ((repeat (first | exact .h _ | refine .t _ _ ?_)); done)); (focus rfl)) | (apply stm d; (focus ((repeat (first | exact .h _ | apply Rp.t)); done)); (focus rfl); (focus simp); (focus exact ones rfl); intro w d; simp only [SPL] at d))
    have e3 : (up.ch ++ [y.id]).flatMap nc = up.ch.flatMap nc ++ [.int .i64 (last + 1)] := by rw [List.flatMap_append, List.flatMap_singleton, hyi]; rfl
    have e4 : (up.ch ++ [y.id]).length = up.ch.length + 1 := by simp
    have d : D w0 (cel up.blk 65 (vcell { up with cv := .slice q2 (up.ch.length + 1) c2, ch := up.ch ++ [y.id] }) :: Rw 3 1 (.slice q2 (up.ch.length + 1) c2) (up.ch ++ [y.id]).length ((up.ch ++ [y.id]).flatMap nc) :: fmp up :: sat ((rmV y.parent (y :: M)).map vob) :: cel bz 3 [.int .i64 (last + 1)] :: cel b 60 [.pointer (some ⟨pb, 0, none⟩), .map (some m), .int .i64 most, .int .i64 (last + 1)] :: Pl pb cap F :: Mp m (vmap (y :: M)) (M.length + 1) :: L) w := by
      rw [e3, e4]
      exact D.sel [2, 0, 3, 4] d
    have d := (D.sel [1] (vone_in (y := { up with cv := .slice q2 (up.ch.length + 1) c2, ch := up.ch ++ [y.id] }) (R := rmV y.parent (y :: M)) d)).tail
    have hui := (vfind_id hup).1
    have e5 := vmap_set (y := { up with cv := .slice q2 (up.ch.length + 1) c2, ch := up.ch ++ [y.id] }) (hvf.trans hup) hui rfl
    have e6 := setv_len (y := { up with cv := .slice q2 (up.ch.length + 1) c2, ch := up.ch ++ [y.id] }) hnv (hvf.trans hup)
    have := k (.slice q2 (up.ch.length + 1) c2) w
    rw [ea, e5, e6] at this
    exact this (D.sel [1, 2, 3, 0] d)
end
end Go.Proofs.Ytlcbfahjejgjlaa
