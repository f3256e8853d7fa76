/- Objects: what the calls do that are refused; handing out. -/
import Derived.Test.YtbbenmflickapaaDoorOh
set_option maxRecDepth 100000
set_option maxHeartbeats 8000000
namespace Go.Proofs.YtbbenmflickapaaDoor
open Go Go.Jac
section
variable {w0 w : World} {L : List HP} {K : Value → WP} {b m : Nat} {last most : Int} {M : List Hd} {A : HP} {sv : Value} {l : List Int}
theorem Ref_no {id : Int} (hx : hfind M id = none) (d : D w0 (Ob b last most M :: L) w) (k : ∀ w', D w0 (Ob b last most M :: L) w' → K (.int .i64 (-25)) w') :
    Cl pg 17 #[.pointer (some ⟨b, 0, none⟩), .int .i64 id] K w := by
  refine V.object_Objects_Ref_ok ?_
  unfold V.object_Objects_Ref
  obtain ⟨m, d⟩ := Ob.out d
  repeat (first | (simp +decide only [SEM]) | (apply ldm d; (focus ((repeat (first | exact .h _ | refine .t _ _ ?_)); done)); (focus rfl)))
  refine lkm1_ok Tryd.underlying58 Tryd.underlying3 (z := .pointer none) (by kernel_rfl) d (.t _ _ (.h _)) ?_
  rw [hmap_none hx]
  repeat (simp +decide only [SEM])
  exact k _ (Ob.mk d)
theorem Pin_no {id : Int} (hx : hfind M id = none) (d : D w0 (Ob b last most M :: L) w) (k : ∀ w', D w0 (Ob b last most M :: L) w' → K (.int .i64 (-25)) w') :
    Cl pg 10 #[.pointer (some ⟨b, 0, none⟩), .int .i64 id] K w := by
  refine V.object_Objects_Pin_ok ?_
  unfold V.object_Objects_Pin
  obtain ⟨m, d⟩ := Ob.out d
  repeat (first | (simp +decide only [SEM]) | (apply ldm d; (focus ((repeat (first | exact .h _ | refine .t _ _ ?_)); done)); (focus rfl)))
  refine lkm1_ok Tryd.underlying58 Tryd.underlying3 (z := .pointer none) (by kernel_rfl) d (.t _ _ (.h _)) ?_
  rw [hmap_none hx]
  repeat (simp +decide only [SEM])
  exact k _ (Ob.mk d)
theorem Info_no {id : Int} (hx : hfind M id = none) (d : D w0 (Ob b last most M :: L) w) (k : ∀ w', D w0 (Ob b last most M :: L) w' → K (.tuple #[.agg #[.int .i64 0, .int .i64 0, .int .i64 0, .int .i64 0, .int .i64 0, .int .i64 0, .int .i64 0], .bool false]) w') :
    Cl pg 16 #[.pointer (some ⟨b, 0, none⟩), .int .i64 id] K w := by
  refine V.object_Objects_Info_ok ?_
  unfold V.object_Objects_Info
  obtain ⟨m, d⟩ := Ob.out d
  repeat (first | (simp +decide only [SEM]) | (apply ldm d; (focus ((repeat (first | exact .h _ | refine .t _ _ ?_)); done)); (focus rfl)) | (refine d_new _ d fun bn w d => ?_))
  refine lkm1_ok Tryd.underlying58 Tryd.underlying3 (z := .pointer none) (by kernel_rfl) d (.t _ _ (.t _ _ (.h _))) ?_
  rw [hmap_none hx]
  repeat (first | (simp +decide only [SEM]) | (apply lam d; (focus ((repeat (first | exact .h _ | refine .t _ _ ?_)); done)); (focus rfl)) | (((repeat (refine bld_c rfl rfl (by simp) ?_; simp only [List.set_cons_zero, List.set_cons_succ])); refine bld_n ?_)) | (apply swm d; (focus ((repeat (first | exact .h _ | apply Rp.t)); done)); (focus rfl); (focus rfl); (focus exact ones rfl); intro w d; simp only [SPL] at d))
  exact k _ (Ob.mk d.tail)
theorem Pair_any {a c : Int} (hn : Nd M) (d : D w0 (Ob b last most M :: L) w) (k0 : ∀ v w', D w0 (Ob b last most M :: L) w' → K v w')
    (k : ∀ x y, hfind M a = some x → hfind M c = some y → a ≠ c → x.paired = false → y.paired = false → ∀ w', D w0 (Ob b last most ({ y with peer := a, paired := true } :: rmH c ({ x with peer := c, paired := true } :: rmH a M)) :: L) w' → K (.int .i64 0) w') : Cl pg 14 #[.pointer (some ⟨b, 0, none⟩), .int .i64 a, .int .i64 c] K w := by
  by_cases hall : ∃ x y, hfind M a = some x ∧ hfind M c = some y ∧ a ≠ c ∧ x.paired = false ∧ y.paired = false
  · obtain ⟨x, y, hx, hy, hac, h1, h2⟩ := hall
    exact Pair_ok hn hx hy hac ⟨h1, h2⟩ d (k x y hx hy hac h1 h2)
  refine V.object_Objects_Pair_ok ?_
  unfold V.object_Objects_Pair
  obtain ⟨m, d⟩ := Ob.out d
  refine drw d fun w d => ?_
  refine qt d ?_
  repeat (first | refine qe_nil ?_ | (apply qlm; (focus ((repeat (first | exact .h _ | refine .t _ _ ?_)); done)); (focus rfl)))
  refine qe_lkm (.t _ _ (.h _)) ?_
  repeat (first | refine qe_nil ?_ | (apply qlm; (focus ((repeat (first | exact .h _ | refine .t _ _ ?_)); done)); (focus rfl)))
  refine qe_lkm (.t _ _ (.h _)) ?_
  cases hx : hfind M a with
  | none =>
    rw [hmap_none hx]
    repeat (simp +decide only [SEM])
    exact k0 _ _ (Ob.mk d)
  | some x =>
    rw [hmap_some hx]
    cases hy : hfind M c with
    | none =>
      rw [hmap_none hy]
      repeat (simp +decide only [SEM])
      exact k0 _ _ (Ob.mk d)
    | some y =>
      rw [hmap_some hy]
      repeat (simp +decide only [SEM])
      refine ⟨fun _ => k0 _ _ (Ob.mk d), fun hac => ?_⟩
      have d1 := one_out hn hx (D.sel [2] d)
      have hy1 : hfind (rmH a M) c = some y := by rw [hfind_rm, if_neg hac]; exact hy
      have d2 := one_out (hn.rm a) hy1 (D.sel [2] d1)
      have back : ∀ w', D w0 (cel y.blk 65 (hcell y) :: Rw 3 1 y.bv y.bag.length (y.bag.flatMap nc) :: sat ((rmH c (rmH a M)).map hdr) :: cel x.blk 65 (hcell x) :: Rw 3 1 x.bv x.bag.length (x.bag.flatMap nc) :: cel b 60 [.map (some m), .int .i64 last, .int .i64 most] :: Mp m (hmap M) M.length :: L) w' → D w0 (Ob b last most M :: L) w' := fun w' d => by
        have e1 := one_back (hn.rm a) hy1 d
        have e2 := one_back hn hx (D.sel [1, 2, 0] e1)
        exact Ob.mk (m := m) (D.sel [1, 2, 0] e2)
      clear d d1
      have d := d2
      clear d2
      simp only [hcell] at d
      repeat (first | (simp +decide only [SEM]) | (apply ldm d; (focus ((repeat (first | exact .h _ | refine .t _ _ ?_)); done)); (focus rfl)))
      cases hpx : x.paired with
      | true =>
        repeat (simp +decide only [SEM])
        exact k0 _ _ (back w d)
      | false =>
        repeat (first | (simp +decide only [SEM]) | (apply ldm d; (focus ((repeat (first | exact .h _ | refine .t _ _ ?_)); done)); (focus rfl)))
        cases hpy : y.paired with
        | true =>
          repeat (simp +decide only [SEM])
          exact k0 _ _ (back w d)
        | false => exact absurd ⟨x, y, hx, hy, hac, hpx, hpy⟩ hall
theorem Carry_any {id : Int} (hn : Nd M) (hA : SeesA w0 A sv l) (hl : l.length ≤ 60000) (hB : bt M ≤ 900000) (d : D w0 (A :: Ob b last most M :: L) w) (k0 : ∀ v w', D w0 (A :: Ob b last most M :: L) w' → K v w')
    (k : ∀ h, hfind M id = some h → (∀ c ∈ l, ∃ x, hfind M c = some x ∧ l.count c ≤ x.refs) → id ∉ l → ∀ v w', D w0 (Ob b last most ({ h with bv := v, bag := h.bag ++ l, crs := ((h.bag ++ l).length : Nat) } :: rmH id (l.foldl carF M)) :: A :: L) w' → K (.int .i64 0) w') :
    Cl pg 11 #[.pointer (some ⟨b, 0, none⟩), .int .i64 id, sv] K w := by
  by_cases hall : ∃ h, hfind M id = some h ∧ (∀ c ∈ l, ∃ x, hfind M c = some x ∧ l.count c ≤ x.refs) ∧ id ∉ l
  · obtain ⟨h, hh, hsp, hni⟩ := hall
    exact Carry_ok hn hA hl hB hh hsp hni d (k h hh hsp hni)
  refine V.object_Objects_Carry_ok ?_
  unfold V.object_Objects_Carry
  obtain ⟨m, d⟩ := Ob.out d.swap
  repeat (first | (simp +decide only [SEM]) | (apply ldm d; (focus ((repeat (first | exact .h _ | refine .t _ _ ?_)); done)); (focus rfl)))
  refine lkm1_ok Tryd.underlying58 Tryd.underlying3 (z := .pointer none) (by kernel_rfl) d (.t _ _ (.h _)) ?_
  cases hh : hfind M id with
  | none =>
    rw [hmap_none hh]
    repeat (simp +decide only [SEM])
    exact k0 _ _ (Ob.mk d).swap
  | some h =>
    rw [hmap_some hh]
    repeat (simp +decide only [SEM])
    refine fn20 (fun _ _ => rfl) (spare_ok hn hA (by omega) (Ob.mk d).swap (fun h1 w d => ?_) (fun h1 w d => ?_) fun hsp w d => ?_)
    · repeat (simp +decide only [SEM])
      exact k0 _ _ d
    · repeat (simp +decide only [SEM])
      exact k0 _ _ d
    · repeat (simp +decide only [SEM])
      refine fn20 (fun _ _ => rfl) (Index_ok (hA _ _ d) (by omega) ?_)
      by_cases hni : id ∈ l
      · rw [decide_eq_true hni]
        repeat (simp +decide only [SEM])
        exact k0 _ _ d
      · exact absurd ⟨h, hh, hsp, hni⟩ hall
theorem Idx_ok {v : Int} (h : Sees w sv l) (hl : l.length ≤ 1000000) (k1 : v ∉ l → K (.int .i64 (-1)) w) (k2 : ∀ i : Nat, ∀ h : i < l.length, l[i] = v → K (.int .i64 i) w) : Cl pg 32 #[sv, .int .i64 v] K w := by
  refine V.slices_Index_int_int_ok ?_
  unfold V.slices_Index_int_int
  refine h.len ?_
  refine ⟨fun vs w' => ∃ (u : Value) (i : Nat), vs = [u, .int .i64 i] ∧ i ≤ l.length ∧ v ∉ l.take i ∧ w' = w, fun vs _ => match vs with | [_, .int _ i] => l.length - i.toNat | _ => 0, ⟨_, 0, rfl, by omega, by simp, rfl⟩, ?_⟩
  rintro _ w' ⟨u, i, rfl, hi, hno, rfl⟩ _
  simp only [UN]
  repeat (simp +decide only [SEM])
  refine ⟨fun hlt => ?_, fun hge => ?_⟩
  · have hlt' : i < l.length := by omega
    refine h.el hlt' ?_
    repeat (simp +decide only [SEM])
    refine ⟨fun e => k2 i hlt' e.symm, fun e => ?_⟩
    rw [w64 (by omega) (by omega)]
    refine ⟨⟨u, i + 1, by simp, by omega, ?_⟩, by omega⟩
    rw [List.take_succ_eq_append_getElem hlt']
    simp only [List.mem_append, List.mem_singleton, not_or]
    exact ⟨hno, e⟩
  · have e : l.take i = l := List.take_of_length_le (by omega)
    rw [e] at hno
    exact k1 hno
theorem Del_ok {i : Nat} (hi : i < l.length) (hl : l.length ≤ 1000000) (d : D w0 (Rw 3 1 sv l.length (l.flatMap nc) :: L) w)
    (k : ∀ sv' w', D w0 (Rw 3 1 sv' (l.eraseIdx i).length ((l.eraseIdx i).flatMap nc) :: L) w' → K sv' w') : Cl pg 33 #[sv, .int .i64 i, .int .i64 (i + 1 : Nat)] K w := by
  refine V.slices_Delete_int_int_ok ?_
  unfold V.slices_Delete_int_int
  have e1 : l.flatMap nc = (l.take i).flatMap nc ++ nc l[i] ++ (l.drop (i + 1)).flatMap nc := by
    have h1 : l.take i ++ l[i] :: l.drop (i + 1) = l := by rw [← List.drop_eq_getElem_cons hi, List.take_append_drop]
    have h2 : (l.take i ++ l[i] :: l.drop (i + 1)).flatMap nc = (l.take i).flatMap nc ++ nc l[i] ++ (l.drop (i + 1)).flatMap nc := by
      rw [List.flatMap_append, List.flatMap_cons, List.append_assoc]
    rw [← h2, h1]
  have e2 : (l.eraseIdx i).flatMap nc = (l.take i).flatMap nc ++ (l.drop (i + 1)).flatMap nc := by
    rw [List.eraseIdx_eq_take_drop_succ, List.flatMap_append]
  have e3 : (l.eraseIdx i).length = i + (l.length - (i + 1)) := by
    rw [List.length_eraseIdx_of_lt hi]; omega
  rw [e1] at d
  have hx : ((l.take i).flatMap nc).length = i * 1 := by rw [nc_map, List.length_map, List.length_take]; omega
  refine gdel_ok (K := K) (P := pg) (j := i + 1) Tryd.underlying50 (by kernel_rfl) rfl (ones rfl) (nc_one _) (by omega) (by omega) hx (by simp [nc_len]) (by omega) d fun sv' w d => ?_
  rw [e2, e3] at k
  exact k sv' w d
/-- One comes out of a message. -/
def hanF (M : List Hd) (id : Int) : List Hd := match hfind M id with
  | none => M
  | some x => { x with car := IntKind.i64.wrap (x.car - 1), refs := IntKind.i64.wrap (x.refs + 1) } :: rmH id M
theorem hanF_nd {M : List Hd} {id : Int} (h : Nd M) : Nd (hanF M id) ∧ (hanF M id).length = M.length ∧ bt (hanF M id) = bt M ∧ (∀ a, (hfind (hanF M id) a = none ↔ hfind M a = none)) := by
  unfold hanF
  split
  · exact ⟨h, rfl, rfl, fun _ => Iff.rfl⟩
  · rename_i x hx
    have hi : ({ x with car := IntKind.i64.wrap (x.car - 1), refs := IntKind.i64.wrap (x.refs + 1) } : Hd).id = id := (hfind_id hx).1
    refine ⟨Nd.upd (x := x) h (hfind_id hx).1, set_len h hx, bt_set h hx rfl, fun a => ?_⟩
    rw [hfind_cons, hfind_rm]
    by_cases e : id = a
    · subst e; rw [if_pos hi, hx]; simp
    · rw [if_neg (by rw [hi]; exact e), if_neg e]
theorem hans_nd (l : List Int) : ∀ {M : List Hd}, Nd M → Nd (l.foldl hanF M) ∧ (l.foldl hanF M).length = M.length ∧ bt (l.foldl hanF M) = bt M ∧ (∀ a, (hfind (l.foldl hanF M) a = none ↔ hfind M a = none)) := by
  induction l with
  | nil => exact fun h => ⟨h, rfl, rfl, fun _ => Iff.rfl⟩
  | cons c r ih =>
    intro M h
    have h1 := hanF_nd (id := c) h
    have h2 := ih h1.1
    exact ⟨h2.1, h2.2.1.trans h1.2.1, h2.2.2.1.trans h1.2.2.1, fun a => (h2.2.2.2 a).trans (h1.2.2.2 a)⟩
theorem Hand_any {id : Int} (hn : Nd M) (hA : SeesA w0 A sv l) (hl : l.length ≤ 60000) (hB : bt M ≤ 900000) (d : D w0 (A :: Ob b last most M :: L) w) (k0 : ∀ v w', D w0 (A :: Ob b last most M :: L) w' → K v w')
    (k : ∀ h, hfind M id = some h → ∀ left v w', left.length + l.length = h.bag.length → D w0 (A :: Ob b last most (l.foldl hanF ({ h with bv := v, bag := left, crs := (left.length : Nat) } :: rmH id M)) :: L) w' → K (.int .i64 0) w') :
    Cl pg 20 #[.pointer (some ⟨b, 0, none⟩), .int .i64 id, sv] K w := by
  refine V.object_Objects_Hand_ok ?_
  unfold V.object_Objects_Hand
  obtain ⟨m, d⟩ := Ob.out d.swap
  repeat (first | (simp +decide only [SEM]) | (apply ldm d; (focus ((repeat (first | exact .h _ | refine .t _ _ ?_)); done)); (focus rfl)))
  refine lkm1_ok Tryd.underlying58 Tryd.underlying3 (z := .pointer none) (by kernel_rfl) d (.t _ _ (.h _)) ?_
  refine fn20 (fun _ _ => rfl) (many_ok hA (by omega) (Ob.mk d).swap (fun h1 w d => ?_) fun hall c n w d => ?_)
  · cases hh : hfind M id with
    | none =>
      rw [hmap_none hh]
      repeat (simp +decide only [SEM])
      exact k0 _ _ d
    | some h =>
      rw [hmap_some hh]
      repeat (simp +decide only [SEM])
      exact k0 _ _ d
  have d := d.tail
  cases hh : hfind M id with
  | none =>
    rw [hmap_none hh]
    repeat (simp +decide only [SEM])
    exact k0 _ _ d
  | some h =>
    rw [hmap_some hh]
    repeat (simp +decide only [SEM])
    obtain ⟨m, d⟩ := Ob.out d.swap
    have hbl := bt_rm hn hh
    have d := one_out hn hh (D.sel [2] d)
    refine ldm d (.h _) (v := h.bv) rfl ?_
    refine fn10 (fun _ _ => rfl) (Clone_ok (sees_rw (sv := h.bv) (l := h.bag)) (by omega) (D.sel [1] d) fun lv w d => ?_)
    have d : D w0 (Rw 3 1 lv h.bag.length (h.bag.flatMap nc) :: A :: Ob b last most M :: L) w := D.sel [1, 2, 0] (Ob.mk (m := m) (D.sel [2, 3, 0] (one_back hn hh (D.sel [2, 1, 3] d))))
    refine (hA _ _ (D.sel [1] d)).len ?_
    refine ⟨fun vs w' => ∃ (u lv : Value) (j : Nat) (left : List Int), vs = [u, lv, .int .i64 j] ∧ j ≤ l.length ∧ left.length + j = h.bag.length ∧ D w0 (Rw 3 1 lv left.length (left.flatMap nc) :: A :: Ob b last most M :: L) w', fun vs _ => match vs with | [_, _, .int _ i] => l.length - i.toNat | _ => 0, ⟨_, lv, 0, h.bag, rfl, by omega, by omega, d⟩, ?_⟩
    clear d
    rintro _ w ⟨u, lv, j, left, rfl, hj, hlj, d⟩ _
    simp only [UN]
    repeat (simp +decide only [SEM])
    refine ⟨fun hlt => ?_, fun hge => ?_⟩
    · have hlt' : j < l.length := by omega
      refine (hA _ _ (D.sel [1] d)).el hlt' ?_
      generalize l[j] = id at *
      refine fn20 (fun _ _ => rfl) (Idx_ok (sees_rw _ _ d) (by omega) (fun hno => ?_) fun i hi hv => ?_)
      · repeat (simp +decide only [SEM])
        exact k0 _ _ d.tail
      · repeat (simp +decide only [SEM])
        refine ⟨fun h => absurd h (by omega), fun _ => ?_⟩
        have hwi : IntKind.i64.wrap ((i : Int) + 1) = ((i + 1 : Nat) : Int) := by rw [w64 (by omega) (by omega)]; simp
        rw [hwi]
        refine fn30 (fun _ _ => rfl) (Del_ok hi (by omega) d fun lv' w d => ?_)
        repeat (simp +decide only [SEM])
        rw [w64 (by omega) (by omega)]
        have hle := List.length_eraseIdx_of_lt hi
        exact ⟨⟨u, lv', j + 1, _, by simp, by omega, by omega, d⟩, by omega⟩
    · obtain rfl : j = l.length := by omega
      refine len_rw d ?_
      obtain ⟨m, d⟩ := Ob.out (D.sel [2] d)
      have d := one_out hn hh (D.sel [2] d)
      simp only [hcell] at d
      obtain ⟨q, c, rfl, -⟩ := Rw.shape (D.sel [5] d).1
      repeat (first | (simp +decide only [SEM]) | (apply stm d; (focus ((repeat (first | exact .h _ | apply Rp.t)); done)); (focus rfl); (focus simp); (focus exact ones rfl); intro w d; simp only [SPL] at d))
      have hn2 : Nd ({ h with bv := .slice q left.length c, bag := left, crs := (left.length : Nat) } :: rmH id M) := Nd.upd (x := h) hn (hfind_id hh).1
      have hf2 : ∀ a, hfind ({ h with bv := .slice q left.length c, bag := left, crs := (left.length : Nat) } :: rmH id M) a = none ↔ hfind M a = none := fun a => by
        rw [hfind_cons, hfind_rm]
        by_cases e : id = a
        · subst e; rw [if_pos (by exact (hfind_id hh).1), hh]; simp
        · rw [if_neg (by rw [(hfind_id hh).1]; exact e), if_neg e]
      have d : D w0 (A :: Ob b last most ({ h with bv := .slice q left.length c, bag := left, crs := (left.length : Nat) } :: rmH id M) :: L) w :=
        (D.sel [1] (Ob.upd (m := m) (x := h) (y := { h with bv := .slice q left.length c, bag := left, crs := (left.length : Nat) }) hn hh (hfind_id hh).1 rfl (D.sel [0, 5, 2, 3, 4] d))).tail.swap
      refine (hA _ _ d).len ?_
      have fin : ∀ w', D w0 (A :: Ob b last most (l.foldl hanF ({ h with bv := .slice q left.length c, bag := left, crs := (left.length : Nat) } :: rmH id M)) :: L) w' → K (.int .i64 0) w' := fun w' d' => k h hh left (.slice q left.length c) w' (by omega) d'
      clear k k0
      generalize ({ h with bv := .slice q left.length c, bag := left, crs := (left.length : Nat) } :: rmH id M) = M2 at *
      refine ⟨fun vs w' => ∃ (i : Nat), vs = [.int .i64 i] ∧ i ≤ l.length ∧ D w0 (A :: Ob b last most ((l.take i).foldl hanF M2) :: L) w', fun vs _ => match vs with | [.int _ i] => l.length - i.toNat | _ => 0, ⟨0, rfl, by omega, d⟩, ?_⟩
      clear d
      rintro _ w ⟨i, rfl, hi, d⟩ _
      simp only [UN]
      repeat (simp +decide only [SEM])
      refine ⟨fun hlt => ?_, fun hge => ?_⟩
      · have hlt' : i < l.length := by omega
        have hw1 : IntKind.i64.wrap ((i : Int) + 1) = i + 1 := w64 (by omega) (by omega)
        refine (hA _ _ d).el hlt' ?_
        have e1 : (l.take (i + 1)).foldl hanF M2 = hanF ((l.take i).foldl hanF M2) l[i] := by
          rw [List.take_succ_eq_append_getElem hlt', List.foldl_append]; rfl
        have hnS := hans_nd (l.take i) hn2
        have hne : hfind ((l.take i).foldl hanF M2) l[i] ≠ none := by
          intro h
          exact hall l[i] (List.getElem_mem hlt') ((hf2 _).1 ((hnS.2.2.2 l[i]).1 h))
        have next : ∀ w', D w0 (A :: Ob b last most ((l.take (i + 1)).foldl hanF M2) :: L) w' → (∃ (i' : Nat), [Value.int .i64 ((i : Int) + 1)] = [.int .i64 i'] ∧ i' ≤ l.length ∧ D w0 (A :: Ob b last most ((l.take i').foldl hanF M2) :: L) w') ∧ l.length - ((i : Int) + 1).toNat < l.length - (i : Int).toNat :=
          fun w' d' => ⟨⟨i + 1, by simp, by omega, d'⟩, by omega⟩
        rw [e1] at next
        generalize (l.take i).foldl hanF M2 = S at *
        generalize l[i] = c at *
        obtain ⟨x, hx⟩ : ∃ x, hfind S c = some x := by
          cases h : hfind S c with
          | none => exact absurd h hne
          | some x => exact ⟨x, rfl⟩
        have e2 : hanF S c = { x with car := IntKind.i64.wrap (x.car - 1), refs := IntKind.i64.wrap (x.refs + 1) } :: rmH c S := by unfold hanF; rw [hx]
        rw [e2] at next
        obtain ⟨m, d⟩ := Ob.out (D.sel [1] d)
        repeat (first | (simp +decide only [SEM]) | (apply ldm d; (focus ((repeat (first | exact .h _ | refine .t _ _ ?_)); done)); (focus rfl)))
        refine lkm1_ok Tryd.underlying58 Tryd.underlying3 (z := .pointer none) (by kernel_rfl) d (.t _ _ (.h _)) ?_
        rw [hmap_some hx]
        have d := one_out hnS.1 hx (D.sel [2] d)
        simp only [hcell] at d
        repeat (first | (simp +decide only [SEM]) | (apply ldm d; (focus ((repeat (first | exact .h _ | refine .t _ _ ?_)); done)); (focus rfl)) | (apply stm d; (focus ((repeat (first | exact .h _ | apply Rp.t)); done)); (focus rfl); (focus simp); (focus exact ones rfl); intro w d; simp only [SPL] at d))
        refine lkm1_ok Tryd.underlying58 Tryd.underlying3 (z := .pointer none) (by kernel_rfl) d (.t _ _ (.t _ _ (.t _ _ (.t _ _ (.h _))))) ?_
        rw [hmap_some hx]
        repeat (first | (simp +decide only [SEM]) | (apply ldm d; (focus ((repeat (first | exact .h _ | refine .t _ _ ?_)); done)); (focus rfl)) | (apply stm d; (focus ((repeat (first | exact .h _ | apply Rp.t)); done)); (focus rfl); (focus simp); (focus exact ones rfl); intro w d; simp only [SPL] at d))
        rw [hw1]
        exact next w (D.swap (Ob.upd (y := { x with car := IntKind.i64.wrap (x.car - 1), refs := IntKind.i64.wrap (x.refs + 1) }) hnS.1 hx (hfind_id hx).1 rfl d))
      · have e : l.take i = l := List.take_of_length_le (by omega)
        rw [e] at d
        exact fin w d
end
end Go.Proofs.YtbbenmflickapaaDoor
