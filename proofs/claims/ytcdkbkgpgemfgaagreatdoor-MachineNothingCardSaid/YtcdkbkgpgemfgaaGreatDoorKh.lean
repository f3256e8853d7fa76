/- What writes, and what makes blocks, is right. -/
import Derived.Test.YtcdkbkgpgemfgaaGreatDoorKf
set_option maxRecDepth 100000
namespace Go.Jac
open Go

section
variable {AT : Nat → Nat → Value} {P : Program} {GL : Gv} {σ : Sg} {w0 w : World} {F : List HP} {S : XS} {x : X} {K : Value → WP}
theorem mm2_r (mx : Bool) (a b : Int) : ((cond mx Builtin.max2 Builtin.min2) (.int .i64 a) (.int .i64 b)).run P w = .ok (.int .i64 (cond mx (cond (decide (b > a)) b a) (cond (decide (b < a)) b a))) w := by
  cases mx with
  | true =>
    simp only [cond_true, Builtin.max2, Sem.run_pure, Result.ok.injEq, Value.int.injEq, true_and, and_true]
    by_cases hb : b > a <;> simp [hb]
  | false =>
    simp only [cond_false, Builtin.min2, Sem.run_pure, Result.ok.injEq, Value.int.injEq, true_and, and_true]
    by_cases hb : b < a <;> simp [hb]
theorem mm2_x (hG : GLok AT GL w0 F) {mx : Bool} {y z : X} {u v : Value} (h : xMM2 GL mx y z = .ok x) (hy : den AT σ y = some u) (hz : den AT σ z = some v) : ∃ r, den AT σ x = some r ∧ ((cond mx Builtin.max2 Builtin.min2) u v).run P w = .ok r w := by
  unfold xMM2 at h
  split at h
  · rw [intK_eq] at h
    cases h
    cases den_int.1 hy
    cases den_int.1 hz
    exact ⟨_, den_int.2 rfl, mm2_r _ _ _⟩
  · obtain ⟨a, b, h1, h2, h3⟩ := hG.mm _ _ _ _ (R.of_ok h) σ
    rw [h1] at hy; rw [h2] at hz
    cases hy; cases hz
    exact ⟨_, h3, mm2_r _ _ _⟩
theorem mma_x (hG : GLok AT GL w0 F) {mx : Bool} : ∀ {xs : List X} {vs : List Value} {y : X} {u : Value}, xMMa GL mx y xs = .ok x → den AT σ y = some u → DL AT σ xs vs → ∃ r, den AT σ x = some r ∧ (vs.foldlM (cond mx Builtin.max2 Builtin.min2) u).run P w = .ok r w
  | [], [], y, u, h, hy, _ => by cases h; exact ⟨u, hy, rfl⟩
  | [], _ :: _, _, _, _, _, h => by cases h
  | _ :: _, [], _, _, _, _, h => by cases h
  | z :: xs, v :: vs, y, u, h, hy, hd => by
    have hz : den AT σ z = some v := (List.cons.inj hd).1
    have hr : DL AT σ xs vs := (List.cons.inj hd).2
    unfold xMMa at h
    obtain ⟨t, h1, h2⟩ := R.bind_ok h
    obtain ⟨r, e1, e2⟩ := mm2_x (P := P) (w := w) hG h1 hy hz
    obtain ⟨q, e3, e4⟩ := mma_x hG h2 e1 hr
    refine ⟨q, e3, ?_⟩
    rw [List.foldlM_cons, Sem.run_bind, e2]
    exact e4
theorem mm_x (hG : GLok AT GL w0 F) {mx : Bool} {xs : List X} {vs : List Value} {ats : Array TypeId} {ty : TypeId} (h : xMM GL mx xs = .ok x) (hd : allB isX xs = true → DL AT σ xs vs) : ∃ v, den AT σ x = some v ∧ ∀ K : Value → WP, K v w → Ex P (cond mx (Builtin.max_ ats ty vs.toArray) (Builtin.min_ ats ty vs.toArray)) K w := by
  unfold xMM at h
  split at h
  · rename_i a r
    obtain ⟨ha, h⟩ := need_ok h
    obtain ⟨hr, h⟩ := need_ok h
    have hd := hd (by simp only [allB, ha, hr, cond_true])
    cases vs with
    | nil => cases hd
    | cons v vs =>
      obtain ⟨n, e1, e2⟩ := mma_x (P := P) (w := w) hG h (List.cons.inj hd).1 (List.cons.inj hd).2
      refine ⟨_, e1, fun K k => ⟨_, w, ?_, k⟩⟩
      cases mx with
      | true => unfold Builtin.max_; exact e2
      | false => unfold Builtin.min_; exact e2
  · cases h
theorem pick_w {c a b : SV} {t : Bool} (hv : c.v = .bool t) (hg : c.Good) {v : Value} (hs : (cond t a b).v = v) (hgs : (cond t a b).Good) {KS : SV → WP} (k : ∀ s : SV, s.v = v → s.Good → KS s w) : PickW c a b KS w := by
  obtain ⟨kn, cv⟩ := c
  change cv = .bool t at hv
  subst hv
  unfold PickW
  cases kn with
  | tt =>
    have this : Value.bool t = .bool true := hg
    cases this
    exact k _ hs hgs
  | ff =>
    have this : Value.bool t = .bool false := hg
    cases this
    exact k _ hs hgs
  | un => exact absurd rfl (hg t)
  | unk =>
    cases t with
    | true => exact k _ hs trivial
    | false => exact k _ hs trivial
theorem read_ok (hAT : ∀ i c, (AT i c).oneCell' = true) (hG : GLok AT GL w0 F) {o : Oper} {E : XE} {ρ : Env} (he : EnvR AT σ E ρ) (d : D w0 (S.bs.map (partB AT P σ) ++ F) w) (h : xRead P GL o E S = .ok x) :
    ∃ v, den AT σ x = some v ∧ ∀ KS : SV → WP, (∀ s : SV, s.v = v → s.Good → KS s w) → OpV P o ρ KS w := by
  obtain ⟨dst, op, ty, pos, after, guard⟩ := o
  have dyk : ∀ {v : Value} {KS : SV → WP}, (∀ s : SV, s.v = v → s.Good → KS s w) → KS (dy v) w := fun k => k _ rfl trivial
  unfold xRead at h
  dsimp only at h
  split at h
  · rename_i c a b
    have key : ∀ t, opX E c = .bool t → isX (cond t (opX E a) (opX E b)) = true → x = cond t (opX E a) (opX E b) → ∃ v, den AT σ x = some v ∧ ∀ KS : SV → WP, (∀ s : SV, s.v = v → s.Good → KS s w) → PickW (evS ρ c) (evS ρ a) (evS ρ b) KS w := by
      intro t hc hx e
      subst e
      obtain ⟨vc, c1, c2, c3⟩ := (op_rel he c).out (by rw [hc]; rfl)
      rw [hc] at c1
      cases den_bool.1 c1
      cases t with
      | true =>
        obtain ⟨v, v1, v2, v3⟩ := (op_rel he a).out hx
        exact ⟨v, v1, fun KS k => pick_w c2 c3 v2 v3 k⟩
      | false =>
        obtain ⟨v, v1, v2, v3⟩ := (op_rel he b).out hx
        exact ⟨v, v1, fun KS k => pick_w c2 c3 v2 v3 k⟩
    split at h
    · rename_i hc
      obtain ⟨hx, h⟩ := need_ok h
      cases h
      exact key true hc hx rfl
    · rename_i hc
      obtain ⟨hx, h⟩ := need_ok h
      cases h
      exact key false hc hx rfl
    · cases h
  · rename_i t parts
    obtain ⟨v, h1, h2⟩ := build_x (w := w) (σ := σ) hAT (vp := evp ρ parts) (by unfold evp; simp [Function.comp_def]) (fun hx => by
      unfold evp
      simp only [List.map_map, Function.comp_def] at hx ⊢
      have := op_dens he (xs := parts.toList.map (·.2)) (by simpa [List.map_map, Function.comp_def] using hx)
      simpa [List.map_map, Function.comp_def] using this) h
    exact ⟨v, h1, fun KS k => h2 _ (dyk k)⟩
  · obtain ⟨va, v, h1, h2, h3⟩ := load_x hG d h
    have e := op_den he (isX_of h1)
    rw [h1] at e; cases e
    exact ⟨v, h2, fun KS k => h3 _ (dyk k)⟩
  · obtain ⟨rfl, h2⟩ := nil_x (w := w) (AT := AT) (σ := σ) h
    rename_i y
    have hx : isX (opX E y) = true := by
      unfold xNil at h
      split at h <;> first | (rename_i hh; rw [hh]; rfl) | cases h
    exact ⟨_, op_den he hx, fun KS k => h2 _ (op_den he hx) (fun v => KS (dy v)) (dyk k)⟩
  · obtain ⟨v, h1, h2⟩ := bin_x (w := w) hG he h
    exact ⟨v, h1, fun KS k => h2 _ (dyk k)⟩
  · obtain ⟨va, v, h1, h2, h3⟩ := un_x (w := w) (AT := AT) (σ := σ) h
    have e := op_den he (isX_of h1)
    rw [h1] at e; cases e
    exact ⟨v, h2, fun KS k => h3 _ (dyk k)⟩
  · obtain ⟨va, v, h1, h2, h3⟩ := conv_x (w := w) (σ := σ) hG h
    have e := op_den he (isX_of h1)
    rw [h1] at e; cases e
    exact ⟨v, h2, fun KS k => h3 _ (dyk k)⟩
  · obtain ⟨i1, h⟩ := need_ok h
    obtain ⟨i2, h⟩ := need_ok h
    cases h
    exact ⟨_, den_fn.2 ⟨_, _, op_dens he i1, op_dens he i2, rfl⟩, fun KS k => dyk k⟩
  · obtain ⟨v, h1, h2⟩ := slice_x (w := w) he h
    exact ⟨v, h1, fun KS k => h2 _ (dyk k)⟩
  · obtain ⟨i1, h2⟩ := fa_x (w := w) (AT := AT) (σ := σ) h
    obtain ⟨v, h3, h4⟩ := h2 _ (op_den he i1)
    exact ⟨v, h3, fun KS k => h4 _ (dyk k)⟩
  · obtain ⟨i1, h2⟩ := field_x (w := w) (AT := AT) (σ := σ) h
    obtain ⟨v, h3, h4⟩ := h2 _ (op_den he i1)
    exact ⟨v, h3, fun KS k => h4 _ (dyk k)⟩
  · obtain ⟨i1, i2, h2⟩ := indexAddr_x (w := w) (AT := AT) (σ := σ) h
    obtain ⟨v, h3, h4⟩ := h2 _ _ (op_den he i1) (op_den he i2)
    exact ⟨v, h3, fun KS k => h4 _ (dyk k)⟩
  · obtain ⟨i1, i2, h2⟩ := index_x (w := w) (AT := AT) (σ := σ) h
    obtain ⟨v, h3, h4⟩ := h2 _ _ (op_den he i1) (op_den he i2)
    exact ⟨v, h3, fun KS k => h4 _ (dyk k)⟩
  · obtain ⟨i1, i2, h2⟩ := lookup_x d h
    obtain ⟨v, h3, h4⟩ := h2 _ _ (op_den he i1) (op_den he i2)
    exact ⟨v, h3, fun KS k => h4 _ (dyk k)⟩
  · rename_i t ix
    have hx : isX x = true ∨ isX x = false := by cases isX x <;> simp
    unfold xExt at h
    split at h
    · rename_i xs ht
      have e := op_den he (x := t) (by rw [ht]; rfl)
      rw [ht] at e
      obtain ⟨vs, hd, hv⟩ := den_tup.1 e
      obtain ⟨v, hv', hxv⟩ := hd.get (R.of_ok h)
      refine ⟨v, hxv, fun KS k => ?_⟩
      show Ext (ev ρ t) ix _ w
      rw [hv]
      unfold Ext
      have : vs.toArray[ix]? = some v := by simpa using hv'
      simp only [this]
      exact dyk k
    · cases h
  · rename_i c
    obtain ⟨callee, args, ats⟩ := c
    dsimp only at h
    have hargs : allB isX (args.toList.map (opX E)) = true → DL AT σ (args.toList.map (opX E)) (args.toList.map (ev ρ)) := fun hx => op_dens he hx
    split at h
    · obtain ⟨v, h1, h2⟩ := len_x (ty := ty) d (fun _ _ _ => trivial) hargs h
      exact ⟨v, h1, fun KS k => h2 _ (dyk k)⟩
    · obtain ⟨v, h1, h2⟩ := mm_x (P := P) (w := w) (ats := ats) (ty := ty) hG h hargs
      exact ⟨v, h1, fun KS k => h2 _ (dyk k)⟩
    · obtain ⟨v, h1, h2⟩ := mm_x (P := P) (w := w) (ats := ats) (ty := ty) hG h hargs
      exact ⟨v, h1, fun KS k => h2 _ (dyk k)⟩
    · cases h
  · cases h
end
end Go.Jac
set_option maxRecDepth 100000
namespace Go.Jac
open Go

section
variable {AT : Nat → Nat → Value} {P : Program} {GL : Gv} {σ : Sg} {w0 w : World} {F : List HP} {S : XS} {x : X} {K : Value → WP}
/-- A block of cells, taken out of what is known. -/
theorem Rep.open_ {b : Nat} {t : TypeId} {op : Option Nat} {cs : List X} (r : Rep AT P w0 F σ S w) (hf : findB S.bs b = some (.bl t op cs)) :
    ∃ g vs pre junk L, σ b = some g ∧ DL AT σ cs vs ∧ pre.length = g.base ∧ (match op with | none => pre = [] ∧ junk = [] | some es => (vs ++ junk).length = g.cap * es) ∧ D w0 (cel g.ad t (pre ++ vs ++ junk) :: L) w ∧
      (∀ ys us w', DL AT σ ys us → us.length = vs.length → D w0 (cel g.ad t (pre ++ us ++ junk) :: L) w' → Rep AT P w0 F σ (S.upd b (.bl t op ys)) w') ∧ L = (S.del b).bs.map (partB AT P σ) ++ F := by
  obtain ⟨L, d, h1, h2⟩ := r.d.takeB hf
  obtain ⟨⟨hh1, hh2, s, ⟨g, vs, pre, junk, e1, e2, e3, e4, e5⟩, l⟩, kp⟩ := d
  refine ⟨g, vs, pre, junk, L, e1, e2, e4, e5, ⟨⟨hh1, hh2, s, e3, l⟩, kp⟩, fun ys us w' hy hl d' => ⟨h1 (.bl t op ys) w' ?_, r.fresh⟩, h2⟩
  obtain ⟨⟨k1, k2, s', a, l'⟩, kp'⟩ := d'
  refine ⟨⟨k1, k2, s', ⟨g, us, pre, junk, e1, hy, a, e4, ?_⟩, l'⟩, kp'⟩
  cases op with
  | none => exact e5
  | some es => dsimp only at e5 ⊢; rw [List.length_append, hl, ← List.length_append]; exact e5
theorem Rep.drew (r : Rep AT P w0 F σ S w) : Rep AT P w0 F σ S w.drew := ⟨r.d.drawn, r.fresh⟩
theorem Rep.alloc {t : TypeId} {xs : List X} {vs junk : List Value} {op : Option Nat} {cap : Nat} (r : Rep AT P w0 F σ S w) (hd : DL AT σ xs vs) (hop : match op with | none => junk = [] | some es => (vs ++ junk).length = cap * es) :
    Rep AT P w0 F (σ.add S.nx ⟨w.heap.size, 0, cap, none⟩) (S.add (.bl t op xs)) (w.alloc (.cells (vs ++ junk).toArray t (0, 0))) := by
  refine r.grow ⟨?_, r.d.2.trans (Kp.alloc _ _)⟩
  rw [hw_alloc]
  obtain ⟨h1, h2, s, a, l⟩ := Sat.new (n := w.heap.size) (o := .cells (vs ++ junk).toArray t (0, 0)) (hw_none w) r.d.1
  refine ⟨h1, h2, s, ⟨_, vs, [], junk, Sg.add_at _ _ _, hd.mono r.le, a, rfl, ?_⟩, l⟩
  cases op with
  | none => exact ⟨rfl, hop⟩
  | some es => exact hop
theorem Rep.alloc0 {t : TypeId} {xs : List X} {vs : List Value} {cap : Nat} (r : Rep AT P w0 F σ S w) (hd : DL AT σ xs vs) :
    Rep AT P w0 F (σ.add S.nx ⟨w.heap.size, 0, cap, none⟩) (S.add (.bl t none xs)) (w.alloc (.cells vs.toArray t (0, 0))) := by
  have := r.alloc (t := t) (cap := cap) (junk := []) (op := none) hd rfl
  rw [List.append_nil] at this
  exact this
theorem new_x {t : TypeId} {xs : List X} {vs : List Value} (r : Rep AT P w0 F σ S w) (hd : DL AT σ xs vs) (k : ∀ σ' v w', σ.le σ' → Rep AT P w0 F σ' (S.add (.bl t none xs)) w' → den AT σ' (.ptr S.nx 0) = some v → K v w') : New t vs.toArray K w :=
  k _ _ _ r.le (r.alloc0 (cap := 0) hd) (den_ptr.2 ⟨_, Sg.add_at _ _ _, rfl⟩)
theorem store_x (hAT : ∀ i c, (AT i c).oneCell' = true) {t : TypeId} {a y : X} {S' : XS} (r : Rep AT P w0 F σ S w) (h : xStore P S t a y = .ok S') :
    ∀ va vy, (isX a = true → den AT σ a = some va) → (isX y = true → den AT σ y = some vy) → ∀ K : Value → WP, (∀ w', Rep AT P w0 F σ S' w' → K undef w') → (match P.info? t with
    | some i => St i.size va vy K
    | none => fun _ => False) w := by
  intro va vy hva hvy K k
  unfold xStore at h
  simp only [XS.updK_eq] at h
  split at h
  · rename_i i hi
    obtain ⟨e1, h⟩ := need_ok h
    obtain ⟨e2, h⟩ := need_ok h
    have e1 := beq_eq e1
    rw [hi]; dsimp only
    split at h
    · rename_i b o _ _
      split at h
      · rename_i t' op cs hf
        obtain ⟨e3, h⟩ := need_ok h
        cases h
        have e3 := ble_le e3
        have hy : den AT σ y = some vy := hvy (by
          cases y with
          | un => simp [xcells, allB, one1] at e2
          | no => simp [xcells, allB, one1] at e2
          | _ => rfl)
        have hfl : flat1 y = true := by
          cases y with
          | un => simp [xcells, allB, one1] at e2
          | no => simp [xcells, allB, one1] at e2
          | lit v => exact xcells_one (allB_iff.1 e2 (.lit v) (by simp [xcells]))
          | _ => rfl
        have hc := flat_cells hAT hfl hy
        obtain ⟨g, vs, pre, junk, L, h1, h2, h3, h4, d, hset, _⟩ := r.open_ hf
        have ha := hva rfl
        obtain ⟨g', hg', rfl⟩ := den_ptr.1 ha
        rw [h1] at hg'; cases hg'
        have hl := h2.len
        have e5 : vy.cells.size = i.size := by
          have hcl := hc.len
          rw [Array.length_toList] at hcl
          exact hcl.symm.trans e1
        have hfit : o + vy.cells.toList.length ≤ vs.length := by rw [Array.length_toList, e5]; omega
        refine d_st (o := g.base + o) d e5 (by simp only [List.length_append]; omega) (ones_ok hAT e2 hc) fun w' d' => k w' ?_
        rw [splice_mid (o := o) (by omega) hfit, ow_splice _ _ _ hfit] at d'
        exact hset _ _ w' (h2.ow hc o) (ow_len _ _ _) d'
      · cases h
    · cases h
  · cases h
/-! ### Maps -/
theorem lkM_upM (es : List (Int × X)) (k : Int) (y : X) (n : Int) : lkM (upM es k y) n = if n = k then some y else lkM es n := by
  induction es with
  | nil =>
    unfold upM lkM
    by_cases h : k = n
    · simp [h]
    · simp [h, lkM]
      intro h'; exact absurd h'.symm h
  | cons p r ih =>
    obtain ⟨k', z⟩ := p
    unfold upM
    by_cases hk : k' = k
    · subst hk
      simp only [decide_true, cond_true]
      unfold lkM
      by_cases h : k' = n
      · simp [h]
      · simp [h]
        intro h'; exact absurd h'.symm h
    · simp only [hk, decide_false, cond_false]
      unfold lkM
      by_cases h : k' = n
      · subst h; simp [hk]
      · simp only [h, decide_false, cond_false]
        rw [ih]
theorem upM_len (es : List (Int × X)) (k : Int) (y : X) : (upM es k y).length = if (lkM es k).isSome then es.length else es.length + 1 := by
  induction es with
  | nil => rfl
  | cons p r ih =>
    obtain ⟨k', z⟩ := p
    unfold upM lkM
    by_cases hk : k' = k
    · simp [hk]
    · simp only [hk, decide_false, cond_false, List.length_cons, ih]
      split <;> rfl
theorem upM_mem {es : List (Int × X)} {k : Int} {y : X} : ∀ p ∈ upM es k y, p ∈ es ∨ p.2 = y := by
  induction es with
  | nil => intro p hp; simp [upM] at hp; exact .inr (by rw [hp])
  | cons q r ih =>
    obtain ⟨k', z⟩ := q
    intro p hp
    unfold upM at hp
    by_cases hk : k' = k
    · simp only [hk, decide_true, cond_true, List.mem_cons] at hp
      rcases hp with rfl | hp
      · exact .inr rfl
      · exact .inl (by simp [hp])
    · simp only [hk, decide_false, cond_false, List.mem_cons] at hp
      rcases hp with rfl | hp
      · exact .inl (by simp)
      · rcases ih p hp with h | h
        · exact .inl (by simp [h])
        · exact .inr h
theorem upM_keys {es : List (Int × X)} {k : Int} {y : X} : ∀ n, n ∈ (upM es k y).map (·.1) → n = k ∨ n ∈ es.map (·.1) := by
  induction es with
  | nil => intro n hn; simp [upM] at hn; exact .inl hn
  | cons q r ih =>
    obtain ⟨k', z⟩ := q
    intro n hn
    unfold upM at hn
    by_cases hk : k' = k
    · simp only [hk, decide_true, cond_true, List.map_cons, List.mem_cons] at hn ⊢
      rcases hn with rfl | hn
      · exact .inl rfl
      · exact .inr (.inr hn)
    · simp only [hk, decide_false, cond_false, List.map_cons, List.mem_cons] at hn ⊢
      rcases hn with rfl | hn
      · exact .inr (.inl rfl)
      · rcases ih n hn with h | h
        · exact .inl h
        · exact .inr (.inr h)
theorem upM_nd {es : List (Int × X)} {k : Int} {y : X} (h : (es.map (·.1)).Nodup) : ((upM es k y).map (·.1)).Nodup := by
  induction es with
  | nil => simp [upM]
  | cons q r ih =>
    obtain ⟨k', z⟩ := q
    rw [List.map_cons, List.nodup_cons] at h
    unfold upM
    by_cases hk : k' = k
    · subst hk
      simp only [decide_true, cond_true, List.map_cons, List.nodup_cons]
      exact h
    · simp only [hk, decide_false, cond_false, List.map_cons, List.nodup_cons]
      refine ⟨fun hm => ?_, ih h.2⟩
      rcases upM_keys _ hm with e | e
      · exact hk e
      · exact h.1 e
theorem gm_some {es : List (Int × X)} (h : ∀ p ∈ es, ∃ v, den AT σ p.2 = some v) (k : Int) : (gm AT σ es k).isSome = (lkM es k).isSome := by
  induction es with
  | nil => rfl
  | cons p r ih =>
    obtain ⟨k', z⟩ := p
    unfold gm lkM
    by_cases hk : k' = k
    · obtain ⟨v, hv⟩ := h (k', z) (by simp)
      simp [hk, hv]
    · simp only [hk, decide_false, cond_false]
      exact ih fun p hp => h p (by simp [hp])
theorem gm_upM {es : List (Int × X)} {k : Int} {y : X} {v : Value} (hy : den AT σ y = some v) : gm AT σ (upM es k y) = upd (gm AT σ es) k v := by
  funext n
  unfold gm upd
  rw [lkM_upM]
  split
  · exact hy
  · rfl
theorem mkmap_x {t : TypeId} (r : Rep AT P w0 F σ S w) (k : ∀ σ' v w', σ.le σ' → Rep AT P w0 F σ' (S.add (.mp [])) w' → den AT σ' (.mp S.nx) = some v → K v w') : Ex P (Instr.makeMap t none) K w := by
  refine mmk_ok r.d fun b w' d => ?_
  have d' : D w0 (partB AT P (σ.add S.nx ⟨b, 0, 0, none⟩) (S.nx, .mp []) :: (S.bs.map (partB AT P σ) ++ F)) w' := by
    obtain ⟨⟨h1, h2, s, a, l⟩, kp⟩ := d
    exact ⟨⟨h1, h2, s, ⟨_, Sg.add_at _ _ _, by simp, List.nodup_nil, a⟩, l⟩, kp⟩
  exact k _ _ _ r.le (r.grow d') (den_mp.2 ⟨_, Sg.add_at _ _ _, rfl⟩)
theorem mapup_x {t kt et : TypeId} {b : Nat} {n : Int} {y : X} {es : List (Int × X)} {vy vm : Value} (hu : P.underlying t = some (.map kt et)) (hk : P.underlying kt = some (.int .i64)) (r : Rep AT P w0 F σ S w) (hf : findB S.bs b = some (.mp es)) (hm : den AT σ (.mp b) = some vm) (hy : den AT σ y = some vy)
    (k : ∀ w', Rep AT P w0 F σ (S.upd b (.mp (upM es n y))) w' → K undef w') : Ex P (do Instr.mapUpdate t vm (.int .i64 n) vy; pure undef) K w := by
  obtain ⟨L, d, h1, _⟩ := r.d.takeB hf
  obtain ⟨⟨hh1, hh2, s, ⟨g, e1, e2, e0, e3⟩, l⟩, kp⟩ := d
  obtain ⟨g', hg', rfl⟩ := den_mp.1 hm
  rw [e1] at hg'; cases hg'
  have d : D w0 (Mp g.ad (gm AT σ es) es.length :: L) w := ⟨⟨hh1, hh2, s, e3, l⟩, kp⟩
  refine mup_ok hu hk d fun w' d' => k w' ⟨h1 _ w' ?_, r.fresh⟩
  obtain ⟨⟨k1, k2, s', a, l'⟩, kp'⟩ := d'
  refine ⟨⟨k1, k2, s', ⟨g, e1, fun p hp => ?_, upM_nd e0, ?_⟩, l'⟩, kp'⟩
  · rcases upM_mem p hp with h | h
    · exact e2 p h
    · exact ⟨vy, by rw [h]; exact hy⟩
  · rw [gm_upM hy, upM_len, ← gm_some e2]
    exact a
/-! ### Appending -/
theorem row_read {b o n es : Nat} {t : TypeId} {op : Option Nat} {cs : List X} {g : Gh} (d : D w0 (S.bs.map (partB AT P σ) ++ F) w) (hf : findB S.bs b = some (.bl t op cs)) (hle : o + n * es ≤ cs.length) (hg : σ b = some g) :
    ∃ news, DL AT σ ((cs.drop o).take (n * es)) news ∧ news.length = n * es ∧ ∀ j u, news[j]? = some u → w.cell? ((⟨g.ad, g.base + o, none⟩ : Addr).add j) = some u := by
  obtain ⟨g', vs, pre, junk, h1, h2, h3, h4, _⟩ := d.atB hf
  rw [hg] at h1; cases h1
  have hl := h2.len
  refine ⟨_, (h2.drop o).take (n * es), by simp; omega, fun j u hu => ?_⟩
  rw [add_of, cell_of h3]
  rw [List.getElem?_take] at hu
  split at hu
  · rw [List.getElem?_drop] at hu
    rw [List.append_assoc, List.getElem?_append_right (by omega), List.getElem?_append_left (by omega), h4, ← hu]
    congr 1
    omega
  · cases hu
theorem src_x {es n : Nat} {y : X} {ys : List X} (d : D w0 (S.bs.map (partB AT P σ) ++ F) w) (h : xSrc S es y = .ok (n, ys)) : isX y = true ∧ ∀ vy, den AT σ y = some vy → ∃ news, DL AT σ ys news ∧ news.length = n * es ∧ ((∀ u ∈ news, u.oneCell' = true) → SrcV es vy n news w) := by
  have blk : ∀ {b o n : Nat} {t : TypeId} {op : Option Nat} {cs : List X} {g : Gh} {c : Nat}, findB S.bs b = some (.bl t op cs) → o + n * es ≤ cs.length → σ b = some g →
      ∃ news, DL AT σ ((cs.drop o).take (n * es)) news ∧ news.length = n * es ∧ ((∀ u ∈ news, u.oneCell' = true) → SrcV es (.slice (some ⟨g.ad, g.base + o, none⟩) n c) n news w) := by
    intro b o n t op cs g c hf hle hg
    obtain ⟨news, h1, h2, h3⟩ := row_read d hf hle hg
    exact ⟨news, h1, h2, fun h4 => .slice _ c rfl h2 h3 h4⟩
  unfold xSrc at h
  split at h
  · cases h
    refine ⟨rfl, fun vy hy => ⟨[], DL.nil, by simp, fun _ => ?_⟩⟩
    cases den_lit.1 hy
    exact .nil 0 rfl rfl rfl
  · split at h
    · rename_i hf
      obtain ⟨e, h⟩ := need_ok h
      cases h
      refine ⟨rfl, fun vy hy => ?_⟩
      obtain ⟨_, g, hg, rfl⟩ := den_sl.1 hy
      exact blk hf (ble_le e) hg
    · cases h
  · split at h
    · rename_i hf
      obtain ⟨e, h⟩ := need_ok h
      cases h
      refine ⟨rfl, fun vy hy => ?_⟩
      obtain ⟨g, hg, _, rfl⟩ := den_so.1 hy
      exact blk hf (ble_le e) hg
    · cases h
  · cases h
    refine ⟨rfl, fun vy hy => ⟨[], DL.nil, by simp, fun h1 => ?_⟩⟩
    obtain ⟨g, hg, _, rfl⟩ := den_se.1 hy
    exact .slice _ _ rfl (by simp) (by simp) h1
  · cases h
theorem Sat.fgt {A : HP} {L : List HP} {h : Hp} (s : Sat (A :: L) h) : Sat L h := s.tail
/-- The row grows into a block of its own. -/
theorem grow_rep {e es m : Nat} {zero : Array Value} {xs : List X} {vs : List Value} {c : Nat} (hz : zero.size = es) (r : Rep AT P w0 F σ S w) (hd : DL AT σ xs vs) (hl : vs.length = m * es) (hc : m ≤ c) :
    Rep AT P w0 F (σ.add S.nx ⟨w.heap.size, 0, c, none⟩) (S.add (.bl e (some es) xs)) (w.drew.alloc (.cells (vs.toArray ++ Builtin.zeroCells zero (c - m)) e)) := by
  have e1 : vs.toArray ++ Builtin.zeroCells zero (c - m) = (vs ++ (Builtin.zeroCells zero (c - m)).toList).toArray := by
    apply Array.ext'; simp
  rw [e1]
  have := r.drew.alloc (t := e) (op := some es) (cap := c) (junk := (Builtin.zeroCells zero (c - m)).toList) hd (by
    dsimp only
    rw [List.length_append, hl, Array.length_toList, size_zeroCells, hz, ← Nat.add_mul]
    congr 1
    omega)
  exact this
end
end Go.Jac
