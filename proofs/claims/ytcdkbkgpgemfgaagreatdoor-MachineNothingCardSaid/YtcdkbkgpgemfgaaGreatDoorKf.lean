/- What reads is right: fields, elements, maps, structs; every operation that reads. -/
import Derived.Test.YtcdkbkgpgemfgaaGreatDoorKe
set_option maxRecDepth 100000
namespace Go.Jac
open Go

theorem ow_set {α : Type} : ∀ (l : List α) (o : Nat) (v : α) (r : List α), ow l o (v :: r) = ow (l.set o v) (o + 1) r
  | [], 0, v, r => by cases r <;> rfl
  | [], o + 1, v, r => by cases r <;> rfl
  | c :: l, 0, v, r => by simp only [ow, List.set_cons_zero]
  | c :: l, o + 1, v, r => by simp only [ow, List.set_cons_succ]; rw [ow_set l o v r]
theorem ow_nil {α : Type} : ∀ (l : List α) (o : Nat), ow l o [] = l
  | [], 0 => rfl
  | [], _ + 1 => rfl
  | _ :: _, 0 => rfl
  | c :: l, o + 1 => by simp only [ow]; rw [ow_nil l o]
theorem fold_ow (off : Nat) : ∀ (ks : List Value) (j : Nat) (a : Array Value), (ks.zipIdx j).foldl (fun (a : Array Value) (p : Value × Nat) => a.setIfInBounds (off + p.2) p.1) a = (ow a.toList (off + j) ks).toArray
  | [], j, a => by rw [ow_nil]; rfl
  | v :: r, j, a => by
    rw [List.zipIdx_cons, List.foldl_cons, fold_ow off r (j + 1), ow_set]
    simp only [Array.toList_setIfInBounds, Nat.add_assoc]
section
variable {AT : Nat → Nat → Value} {P : Program} {GL : Gv} {σ : Sg} {w0 w : World} {F : List HP} {S : XS} {x : X} {K : Value → WP}
theorem flat_cells (hAT : ∀ i c, (AT i c).oneCell' = true) {x : X} {v : Value} (hf : flat1 x = true) (h : den AT σ x = some v) : DL AT σ (xcells x) v.cells.toList :=
  cells_dl h (fun i c _ => by have := hAT i c; cases hv : AT i c <;> first | rfl | (rw [hv] at this; cases this)) (fun u hu => by
    subst hu
    cases u <;> first | rfl | (unfold flat1 at hf; cases hf))
theorem fill_x (hAT : ∀ i c, (AT i c).oneCell' = true) {pl : Nat → Option (Nat × Nat)} : ∀ {ps : List (Nat × X)} {vp : List (Nat × Value)} {cells cs : List X} {vs : List Value},
    xFill pl cells ps = some cs → DL AT σ cells vs → allB (fun p => flat1 p.2) ps = true → ps.map (·.1) = vp.map (·.1) → DL AT σ (ps.map (·.2)) (vp.map (·.2)) → ∃ us, Instr.fill pl vs.toArray vp = some us.toArray ∧ DL AT σ cs us
  | [], [], cells, cs, vs, h, hd, _, _, _ => by cases h; exact ⟨vs, rfl, hd⟩
  | [], _ :: _, _, _, _, _, _, _, h, _ => by cases h
  | _ :: _, [], _, _, _, _, _, _, h, _ => by cases h
  | (i, x) :: ps, (j, v) :: vp, cells, cs, vs, h, hd, hf, h1, h2 => by
    simp only [List.map_cons, List.cons.injEq] at h1
    obtain ⟨rfl, h1⟩ := h1
    have hx : den AT σ x = some v := (List.cons.inj h2).1
    have h2 : DL AT σ (ps.map (·.2)) (vp.map (·.2)) := (List.cons.inj h2).2
    have hf1 := allB_iff.1 hf (i, x) (by simp)
    have hf2 : allB (fun p => flat1 p.2) ps = true := allB_iff.2 fun y hy => allB_iff.1 hf y (by simp [hy])
    have hc := flat_cells (σ := σ) hAT hf1 hx
    unfold xFill at h
    unfold Instr.fill
    cases hp : pl i with
    | none => rw [hp] at h; cases h
    | some q =>
      obtain ⟨off, size⟩ := q
      rw [hp] at h
      dsimp only at h ⊢
      cases hs : Nat.beq (xcells x).length size with
      | false => rw [hs] at h; cases h
      | true =>
        rw [hs] at h
        cases hl : Nat.ble (off + (xcells x).length) cells.length with
        | false => rw [hl] at h; cases h
        | true =>
          rw [hl] at h
          simp only [cond_true] at h
          have hs := beq_eq hs
          have hl := ble_le hl
          have e1 : (xcells x).length = v.cells.size := by
            have e0 := hc.len
            rw [Array.length_toList] at e0
            exact e0
          have e2 := hd.len
          have e5 : v.cells.size = size := e1.symm.trans hs
          have e6 : off + v.cells.size ≤ vs.length := by rw [← e1, ← e2]; exact hl
          have hcnd : (decide (v.cells.size ≠ size) || decide (off + v.cells.size > vs.toArray.size)) = false := by
            have h3 : ¬ off + v.cells.size > vs.length := by omega
            simp only [ne_eq, e5, not_true, decide_false, Bool.false_or, decide_eq_false_iff_not, List.size_toArray]
            rw [← e5]; exact h3
          rw [hcnd]
          simp only [Bool.false_eq_true, if_false]
          have e3 : v.cells.zipIdx.foldl (fun (cs : Array Value) (p : Value × Nat) => cs.setIfInBounds (off + p.2) p.1) vs.toArray = (ow vs off v.cells.toList).toArray := by
            rw [← Array.foldl_toList, show v.cells.zipIdx.toList = v.cells.toList.zipIdx from by simp, fold_ow]
            rfl
          have e4 : v.cells.zipIdx.foldl (fun cs (x : Value × Nat) => match x with | (c, j) => cs.setIfInBounds (off + j) c) vs.toArray = (ow vs off v.cells.toList).toArray := e3
          rw [e4]
          exact fill_x hAT h (hd.ow hc off) hf2 h1 h2
theorem xcells_one {x : X} (h : one1 x = true) : flat1 x = true := by
  cases x <;> first | rfl | (simp [one1] at h; done) | skip
  rename_i v
  cases v <;> first | rfl | (simp [one1, Value.oneCell'] at h; done)
theorem one_ok (hAT : ∀ i c, (AT i c).oneCell' = true) {x : X} {v : Value} (h : one1 x = true) (hd : den AT σ x = some v) : v.oneCell' = true := by
  cases x with
  | un => simp [one1] at h
  | no => simp [one1] at h
  | int k n => cases den_int.1 hd; rfl
  | bool b => cases den_bool.1 hd; rfl
  | lit u => cases den_lit.1 hd; exact h
  | ptr b o => obtain ⟨g, h1, rfl⟩ := den_ptr.1 hd; rfl
  | gp b o => cases den_gp.1 hd; rfl
  | sl b o l c => obtain ⟨-, g, h1, rfl⟩ := den_sl.1 hd; rfl
  | so b o l c => obtain ⟨g, h1, -, rfl⟩ := den_so.1 hd; rfl
  | se b o l c => obtain ⟨g, h1, -, rfl⟩ := den_se.1 hd; rfl
  | mp b => obtain ⟨g, h1, rfl⟩ := den_mp.1 hd; rfl
  | fn f a c => obtain ⟨a, b, _, _, rfl⟩ := den_fn.1 hd; rfl
  | yld b => obtain ⟨g, h1, rfl⟩ := den_yld.1 hd; rfl
  | agg xs => simp [one1] at h
  | tup xs => simp [one1] at h
  | stp n => simp [one1] at h
  | sym i c => cases den_sym.1 hd; exact hAT i c
theorem ones_ok (hAT : ∀ i c, (AT i c).oneCell' = true) : ∀ {xs : List X} {vs : List Value}, allB one1 xs = true → DL AT σ xs vs → ∀ v ∈ vs, v.oneCell' = true
  | [], [], _, _, v, hv => by cases hv
  | [], _ :: _, _, h, _, _ => by cases h
  | _ :: _, [], _, h, _, _ => by cases h
  | x :: xs, u :: vs, h, hd, v, hv => by
    have hx := allB_iff.1 h
    rcases List.mem_cons.1 hv with rfl | hv
    · exact one_ok hAT (hx x (by simp)) (List.cons.inj hd).1
    · exact ones_ok hAT (allB_iff.2 fun y hy => hx y (by simp [hy])) (List.cons.inj hd).2 v hv
/-! ### Fields, elements -/
def faV (P : Program) (s : TypeId) (a : Value) (f : Nat) (K : Value → WP) : WP := match P.underlying s with
    | some (.struct fields) => (match fields[f]? with
      | some fl => (match P.info? fl.type with
        | some i => cond (Nat.beq i.size 0) (Ex P (Instr.fieldAt s a f) K) (FA a fl.offset K)
        | none => fun _ => False)
      | none => fun _ => False)
    | _ => fun _ => False
theorem fa_x {s : TypeId} {a : X} {f : Nat} (h : xFA P s a f = .ok x) : isX a = true ∧ ∀ va, den AT σ a = some va → ∃ v, den AT σ x = some v ∧ ∀ K : Value → WP, K v w → faV P s va f K w := by
  unfold xFA at h
  unfold faV
  split at h
  · rename_i fields hu
    split at h
    · rename_i fl hf
      split at h
      · rename_i i hi
        cases hz : Nat.beq i.size 0 with
        | true => rw [hz] at h; cases h
        | false =>
          rw [hz] at h
          simp only [cond_false] at h
          split at h <;> cases h
          · refine ⟨rfl, fun va ha => ?_⟩
            obtain ⟨g, hg, rfl⟩ := den_ptr.1 ha
            refine ⟨_, den_ptr.2 ⟨g, hg, rfl⟩, fun K k => ?_⟩
            rw [hu]; dsimp only; rw [hf]; dsimp only; rw [hi]; dsimp only; rw [hz]
            simp only [cond_false]
            rw [FA_p, Nat.add_assoc]
            exact k
          · refine ⟨rfl, fun va ha => ?_⟩
            cases den_gp.1 ha
            refine ⟨_, den_gp.2 rfl, fun K k => ?_⟩
            rw [hu]; dsimp only; rw [hf]; dsimp only; rw [hi]; dsimp only; rw [hz]
            simp only [cond_false]
            rw [FA_p]
            exact k
      · cases h
    · cases h
  · cases h
theorem part_x {t : TypeId} {xs : List X} {vs : List Value} {off : Nat} (hd : DL AT σ xs vs) (h : xPart P t xs off = .ok x) : ∃ v, den AT σ x = some v ∧ (part t vs.toArray off).run P w = .ok v w := by
  unfold xPart at h
  unfold part
  have agg : ∀ (d : TypeDesc) (i : TypeInfo), P.underlying t = some d → dAgg d = true → P.info? t = some i → x = .agg ((xs.take (off + i.size)).drop off) → ∃ v, den AT σ x = some v ∧ (do
      if ← isAgg t then pure (.agg (vs.toArray.extract off (off + (← sizeOf t))))
      else match vs.toArray[off]? with
        | some v => pure v
        | none => stuck "part: no such cell" : Sem Value).run P w = .ok v w := by
    rintro d i hu hd' hi rfl
    refine ⟨_, den_agg.2 ⟨_, (hd.take (off + i.size)).drop off, rfl⟩, ?_⟩
    simp only [Sem.run_bind, run_isAgg hu, hd', Result.andThen_ok, if_true, run_sizeOf hi, Sem.run_pure, Result.ok.injEq, Value.agg.injEq, and_true]
    apply Array.ext'
    rw [Array.toList_extract]
    simp only [List.extract_eq_take_drop, List.drop_take]
  split at h
  · split at h
    · cases h; exact agg _ _ (by assumption) rfl (by assumption) rfl
    · cases h
  · split at h
    · cases h; exact agg _ _ (by assumption) rfl (by assumption) rfl
    · cases h
  · rename_i d hs ha hu
    obtain ⟨v, hv, hx⟩ := hd.get (R.of_ok h)
    have hna : dAgg d = false := by cases d <;> first | rfl | exact (hs _ rfl).elim | exact (ha _ _ rfl).elim
    refine ⟨v, hx, ?_⟩
    simp only [Sem.run_bind, run_isAgg hu, hna, Result.andThen_ok, Bool.false_eq_true, if_false]
    have : vs.toArray[off]? = some v := by simpa using hv
    rw [this]; rfl
  · cases h
theorem field_x {t : TypeId} {a : X} {f : Nat} (h : xField P t a f = .ok x) : isX a = true ∧ ∀ va, den AT σ a = some va → ∃ v, den AT σ x = some v ∧ ∀ K : Value → WP, K v w → Ex P (Instr.field t va f) K w := by
  unfold xField at h
  split at h
  · rename_i fields hu
    split at h
    · rename_i fl hf
      split at h
      · refine ⟨rfl, fun va ha => ?_⟩
        obtain ⟨vs, hd, rfl⟩ := den_agg.1 ha
        obtain ⟨v, h1, h2⟩ := part_x (w := w) hd h
        refine ⟨v, h1, fun K k => ⟨v, w, ?_, k⟩⟩
        unfold Instr.field
        simp only [Sem.run_bind, run_underlying hu, Result.andThen_ok, hf, asAgg, Sem.run_pure, h2]
      · cases h
    · cases h
  · cases h
theorem ia_x {es : Nat} {a i : X} (h : xIA es a i = .ok x) : isX a = true ∧ isX i = true ∧ ∀ va vi, den AT σ a = some va → den AT σ i = some vi → ∃ v, den AT σ x = some v ∧ ∀ K : Value → WP, K v w → IA es va vi K w := by
  unfold xIA at h
  split at h
  · rename_i kk n
    split at h
    · obtain ⟨e, h⟩ := need_ok h
      cases h
      refine ⟨rfl, rfl, fun va vi ha hi => ?_⟩
      obtain ⟨_, g, hg, rfl⟩ := den_sl.1 ha
      cases den_int.1 hi
      have e := blt_lt e
      refine ⟨_, den_ptr.2 ⟨g, hg, rfl⟩, fun K k => ⟨_, _, _, _, _, rfl, rfl, by simp, by simpa using e, ?_⟩⟩
      rw [add_of, Nat.add_assoc]
      exact k
    · obtain ⟨e, h⟩ := need_ok h
      cases h
      refine ⟨rfl, rfl, fun va vi ha hi => ?_⟩
      obtain ⟨g, hg, _, rfl⟩ := den_so.1 ha
      cases den_int.1 hi
      have e := blt_lt e
      refine ⟨_, den_ptr.2 ⟨g, hg, rfl⟩, fun K k => ⟨_, _, _, _, _, rfl, rfl, by simp, by simpa using e, ?_⟩⟩
      rw [add_of, Nat.add_assoc]
      exact k
    · cases h
  · cases h
theorem iar_x {len es : Nat} {a i : X} (h : xIAr len es a i = .ok x) : isX a = true ∧ isX i = true ∧ ∀ va vi, den AT σ a = some va → den AT σ i = some vi → ∃ v, den AT σ x = some v ∧ ∀ K : Value → WP, K v w → IAr len es va vi K w := by
  unfold xIAr at h
  split at h
  · rename_i kk n
    obtain ⟨e, h⟩ := need_ok h
    have e := blt_lt e
    split at h
    · cases h
      refine ⟨rfl, rfl, fun va vi ha hi => ?_⟩
      obtain ⟨g, hg, rfl⟩ := den_ptr.1 ha
      cases den_int.1 hi
      refine ⟨_, den_ptr.2 ⟨g, hg, rfl⟩, fun K k => ⟨_, _, _, rfl, rfl, by simp, by simpa using e, ?_⟩⟩
      rw [add_of, Nat.add_assoc]
      exact k
    · cases h
      refine ⟨rfl, rfl, fun va vi ha hi => ?_⟩
      cases den_gp.1 ha
      cases den_int.1 hi
      refine ⟨_, den_gp.2 rfl, fun K k => ⟨_, _, _, rfl, rfl, by simp, by simpa using e, ?_⟩⟩
      rw [add_of]
      exact k
    · cases h
  · cases h
def iaV (P : Program) (t : TypeId) (a i : Value) (K : Value → WP) : WP := match P.underlying t with
    | some (.slice e) => (match P.info? e with | some inf => IA inf.size a i K | none => fun _ => False)
    | some (.array n e) => (match P.info? e with | some inf => IAr n inf.size a i K | none => fun _ => False)
    | _ => fun _ => False
theorem indexAddr_x {t : TypeId} {a i : X} (h : xIndexAddr P t a i = .ok x) : isX a = true ∧ isX i = true ∧ ∀ va vi, den AT σ a = some va → den AT σ i = some vi → ∃ v, den AT σ x = some v ∧ ∀ K : Value → WP, K v w → iaV P t va vi K w := by
  unfold xIndexAddr at h
  unfold iaV
  split at h
  · rename_i e hu
    split at h
    · rename_i inf hi
      rw [hu]; dsimp only; rw [hi]
      exact ia_x h
    · cases h
  · rename_i n e hu
    split at h
    · rename_i inf hi
      rw [hu]; dsimp only; rw [hi]
      exact iar_x h
    · cases h
  · cases h
theorem strGet_eq (s : ByteArray) (j : Nat) : s[j]? = s.data.toList[j]? := by
  obtain ⟨a⟩ := s
  by_cases h : j < a.size
  · rw [getElem?_pos (c := ByteArray.mk a) (i := j) (h := h), List.getElem?_eq_getElem (by simpa using h)]
    rfl
  · rw [getElem?_neg (c := ByteArray.mk a) (i := j) (h := h), List.getElem?_eq_none (by simpa using h)]
theorem index_x {t : TypeId} {a i : X} (h : xIndex P t a i = .ok x) : isX a = true ∧ isX i = true ∧ ∀ va vi, den AT σ a = some va → den AT σ i = some vi → ∃ v, den AT σ x = some v ∧ ∀ K : Value → WP, K v w → Ex P (Instr.index t va vi) K w := by
  unfold xIndex at h
  split at h
  · rename_i n e hu
    split at h
    · rename_i kk j xs
      obtain ⟨e1, h⟩ := need_ok h
      have e1 := blt_lt e1
      split at h
      · rename_i inf hi
        refine ⟨rfl, rfl, fun va vi ha hvi => ?_⟩
        obtain ⟨vs, hd, rfl⟩ := den_agg.1 ha
        cases den_int.1 hvi
        obtain ⟨v, h1, h2⟩ := part_x (w := w) hd h
        refine ⟨v, h1, fun K k => ⟨v, w, ?_, k⟩⟩
        unfold Instr.index
        have c1 : (0 : Int) ≤ Int.ofNat j ∧ Int.ofNat j < (n : Int) := ⟨by simp, by simpa using e1⟩
        simp only [Sem.run_bind, asIntOf, Sem.run_pure, Result.andThen_ok, run_underlying hu, c1, and_self, if_true, run_sizeOf hi]
        exact h2
      · cases h
    · cases h
  · rename_i hu
    split at h
    · rename_i kk j str
      split at h
      · rename_i b hb
        cases h
        refine ⟨rfl, rfl, fun va vi ha hvi => ?_⟩
        cases den_lit.1 ha
        cases den_int.1 hvi
        refine ⟨_, den_int.2 rfl, fun K k => ⟨_, w, ?_, k⟩⟩
        unfold Instr.index
        have c1 : (0 : Int) ≤ Int.ofNat j := by simp
        have c2 : str[(Int.ofNat j).toNat]? = some b := by
          show str[j]? = some b
          rw [← hb, strGet_eq]
        simp only [Sem.run_bind, asIntOf, Sem.run_pure, Result.andThen_ok, run_underlying hu, c1, if_true, c2]
      · cases h
    · cases h
  · cases h
/-! ### Maps, lengths -/
theorem D.one {A : HP} (h : A (hw w)) (k : Kp w0 w) : D w0 [A] w := ⟨⟨hw w, hE, (Split.right _).comm, h, trivial⟩, k⟩
theorem isI64_ok {t : TypeId} (h : isI64 P t = true) : P.underlying t = some (.int .i64) := by
  unfold isI64 at h
  split at h
  · assumption
  · cases h
theorem lookup_x {t : TypeId} {m k : X} {ok : Bool} (d : D w0 (S.bs.map (partB AT P σ) ++ F) w) (h : xLookup P S t m k ok = .ok x) : isX m = true ∧ isX k = true ∧ ∀ vm vk, den AT σ m = some vm → den AT σ k = some vk → ∃ v, den AT σ x = some v ∧ ∀ K : Value → WP, K v w → Ex P (Instr.lookup t vm vk ok) K w := by
  unfold xLookup at h
  split at h
  · rename_i kt et hu
    obtain ⟨hk, h⟩ := need_ok h
    have hk := isI64_ok hk
    split at h
    · rename_i n _
      split at h
      · rename_i z hz
        split at h
        · rename_i b
          split at h
          · rename_i es hf
            refine ⟨rfl, rfl, fun vm vk hm hvk => ?_⟩
            obtain ⟨g, hg, hes, hnd, hmp⟩ := d.atB hf
            obtain ⟨g', hg', rfl⟩ := den_mp.1 hm
            rw [hg] at hg'; cases hg'
            cases den_int.1 hvk
            have hrun := lk_run (k := n) hu hk hz (D.one hmp d.2) ok
            have key : ∀ (y : X) (u : Value) (f : Bool), den AT σ y = some u → (gm AT σ es n).getD z = u → (gm AT σ es n).isSome = f → R.ok (cond ok (.tup [y, .bool f]) y) = R.ok x → ∃ v, den AT σ x = some v ∧ ∀ K : Value → WP, K v w → Ex P (Instr.lookup t (.map (some g.ad)) (.int .i64 n) ok) K w := by
              intro y u f hy h1 h2 hx
              rw [h1, h2] at hrun
              cases hx
              cases ok with
              | true =>
                have := (den_tup (AT := AT) (σ := σ) (xs := [y, .bool f])).2 ⟨[u, .bool f], DL.cons hy (DL.cons (den_bool.2 rfl) DL.nil), rfl⟩
                exact ⟨_, this, fun K k => ⟨_, w, hrun, k⟩⟩
              | false => exact ⟨u, hy, fun K k => ⟨_, w, hrun, k⟩⟩
            split at h
            · rename_i y hl
              obtain ⟨u, hu'⟩ := hes (n, y) (by
                clear hrun key h hf hmp hnd
                induction es with
                | nil => cases hl
                | cons p r ih =>
                  obtain ⟨k', z'⟩ := p
                  unfold lkM at hl
                  cases hc : decide (k' = n) with
                  | true => rw [hc] at hl; cases hl; rw [of_decide_eq_true hc]; simp
                  | false => rw [hc] at hl; simp only [List.mem_cons]; exact .inr (ih (fun p hp => hes p (by simp [hp])) hl))
              refine key y u true hu' ?_ ?_ h
              · unfold gm; rw [hl]; simp [hu']
              · unfold gm; rw [hl]; simp [hu']
            · rename_i hl
              refine key (ofV z) z false (den_ofV z) ?_ ?_ h
              · unfold gm; rw [hl]; rfl
              · unfold gm; rw [hl]; rfl
          · cases h
        · cases h
      · cases h
    · cases h
  · cases h
theorem len_x {ats : Array TypeId} {ty : TypeId} {args : List X} {vs : List Value} (d : D w0 (S.bs.map (partB AT P σ) ++ F) w) (hd : ∀ x ∈ args, isX x = true → True) (hv : allB isX args = true → DL AT σ args vs) (h : xLen P S ats.toList args = .ok x) :
    ∃ v, den AT σ x = some v ∧ ∀ K : Value → WP, K v w → lenV P ats ty vs.toArray ats.toList vs K w := by
  unfold xLen at h
  split at h
  · rename_i t a hats
    have hone : isX a = true → ∃ va, vs = [va] ∧ den AT σ a = some va := fun ha => by
      have := hv (by simp [allB, ha])
      cases vs with
      | nil => cases this
      | cons va r =>
        cases r with
        | nil => exact ⟨va, rfl, (List.cons.inj this).1⟩
        | cons _ _ => have := congrArg List.length this; simp at this
    have hats' : ats = #[t] := by
      apply Array.ext'; rw [hats]
    rw [hats]
    split at h
    · rename_i e hu
      have fin : ∀ (p : Option Addr) (n c : Nat) (K : Value → WP), K (.int .i64 n) w → lenV P ats ty [Value.slice p n c].toArray [t] [.slice p n c] K w := by
        intro p n c K k
        unfold lenV
        dsimp only
        rw [hu]
        exact k
      split at h <;> cases h
      · obtain ⟨va, rfl, ha⟩ := hone rfl
        cases den_lit.1 ha
        exact ⟨_, den_int.2 rfl, fin _ _ _⟩
      · obtain ⟨va, rfl, ha⟩ := hone rfl
        obtain ⟨_, g, hg, rfl⟩ := den_sl.1 ha
        exact ⟨_, den_int.2 rfl, fin _ _ _⟩
      · obtain ⟨va, rfl, ha⟩ := hone rfl
        obtain ⟨g, hg, _, rfl⟩ := den_so.1 ha
        exact ⟨_, den_int.2 rfl, fin _ _ _⟩
      · obtain ⟨va, rfl, ha⟩ := hone rfl
        obtain ⟨g, hg, _, rfl⟩ := den_se.1 ha
        exact ⟨_, den_int.2 rfl, fin _ _ _⟩
    · rename_i kt et hu
      split at h
      · split at h
        · rename_i b _ es hf
          cases h
          obtain ⟨va, rfl, ha⟩ := hone rfl
          obtain ⟨g', hg', rfl⟩ := den_mp.1 ha
          obtain ⟨g, hg, hes, _, hmp⟩ := d.atB hf
          rw [hg] at hg'; cases hg'
          refine ⟨_, den_int.2 rfl, fun K k => ?_⟩
          unfold lenV
          dsimp only
          rw [hu]
          dsimp only
          rw [hats']
          exact mlen_ok hu (D.one hmp d.2) k
        · cases h
      · cases h
    · cases h
  · cases h
theorem ext_x {a : X} {i : Nat} (h : xExt a i = .ok x) (hx : isX x = true) : isX a = true ∧ ∀ va, den AT σ a = some va → ∃ v, den AT σ x = some v ∧ ∀ K : Value → WP, K v w → Ext va i K w := by
  unfold xExt at h
  split at h
  · refine ⟨rfl, fun va ha => ?_⟩
    obtain ⟨vs, hd, rfl⟩ := den_tup.1 ha
    obtain ⟨v, hv, hxv⟩ := hd.get (R.of_ok h)
    refine ⟨v, hxv, fun K k => ?_⟩
    unfold Ext
    have : vs.toArray[i]? = some v := by simpa using hv
    simp only [this]
    exact k
  · cases h
theorem build_x (hAT : ∀ i c, (AT i c).oneCell' = true) {t : TypeId} {ps : List (Nat × X)} {vp : Array (Nat × Value)} (h1 : ps.map (·.1) = vp.toList.map (·.1)) (h2 : allB isX (ps.map (·.2)) = true → DL AT σ (ps.map (·.2)) (vp.toList.map (·.2))) (h : xBuild P t ps = .ok x) :
    ∃ v, den AT σ x = some v ∧ ∀ K : Value → WP, K v w → bldV P t vp K w := by
  obtain ⟨hf, h⟩ := need_ok h
  have h2 := h2 (allB_iff.2 fun y hy => by
    obtain ⟨p, hp, rfl⟩ := List.mem_map.1 hy
    have := allB_iff.1 hf p hp
    revert this
    generalize p.2 = z
    intro this
    cases z <;> first | rfl | (simp [flat1] at this))
  unfold bldV
  split at h
  · rename_i fs hu
    rw [hu]; dsimp only
    cases hk : knownAll P fs.toList with
    | false => rw [hk] at h; cases h
    | true =>
      rw [hk] at h
      simp only [cond_true] at h ⊢
      split at h
      · rename_i i hi
        rw [hi]; dsimp only
        split at h
        · rename_i z hz
          rw [hz]; dsimp only
          obtain ⟨cs, e1, h⟩ := R.bind_ok h
          cases h
          obtain ⟨us, e2, e3⟩ := fill_x (σ := σ) hAT (R.of_ok e1) (DL.of1s z.cells.toList) hf h1 h2
          exact ⟨_, den_agg.2 ⟨us, e3, rfl⟩, fun K k => bld_ok (by simpa using e2) k⟩
        · cases h
      · cases h
  · rename_i n e hu
    rw [hu]; dsimp only
    split at h
    · rename_i i ie hi hie
      split at h
      · rename_i z hz
        obtain ⟨cs, e1, h⟩ := R.bind_ok h
        cases h
        obtain ⟨us, e2, e3⟩ := fill_x (σ := σ) hAT (R.of_ok e1) (DL.of1s z.cells.toList) hf h1 h2
        refine ⟨_, den_agg.2 ⟨us, e3, rfl⟩, fun K k => ⟨_, w, ?_, k⟩⟩
        unfold Instr.build
        have e2' : Instr.fill (fun i => some (i * ie.size, ie.size)) z.cells vp.toList = some us.toArray := by simpa using e2
        simp only [Sem.run_bind, run_zeroValue hi hz, run_underlying hu, Result.andThen_ok, run_sizeOf hie, e2', Sem.run_pure]
      · cases h
    · cases h
  · cases h
end
end Go.Jac
