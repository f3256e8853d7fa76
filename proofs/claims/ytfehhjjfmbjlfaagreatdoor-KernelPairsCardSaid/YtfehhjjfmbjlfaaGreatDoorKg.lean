/- Every operation that reads. -/
import Derived.Test.YtfehhjjfmbjlfaaGreatDoorKf
set_option maxRecDepth 100000
namespace Go.Jac
open Go

section
variable {AT : Nat → Nat → Value} {P : Program} {GL : Gv} {σ : Sg} {w0 w : World} {F : List HP} {S : XS} {x : X} {K : Value → WP}
theorem mm2_r (mx : Bool) (a b : Int) : ((cond mx Builtin.max2 Builtin.min2) (.int .i64 a) (.int .i64 b)).run P w = .ok (.int .i64 (cond mx (cond (decide (b > a)) b a) (cond (decide (b < a)) b a))) w := by
  cases mx with
  | true =>
    simp only [cond_true, Builtin.max2, Sem.run_pure, Result.ok.injEq, Value.int.injEq, true_and, and_true]
    by_cases hb : b > a <;> simp [hb]
  | false =>
    simp only [cond_false, Builtin.min2, Sem.run_pure, Result.ok.injEq, Value.int.injEq, true_and, and_true]
    by_cases hb : b < a <;> simp [hb]
theorem mm2_x (hG : GLok AT GL w0 F) {mx : Bool} {y z : X} {u v : Value} (h : xMM2 GL mx y z = .ok x) (hy : den AT σ y = some u) (hz : den AT σ z = some v) : ∃ r, den AT σ x = some r ∧ ((cond mx Builtin.max2 Builtin.min2) u v).run P w = .ok r w := by
  unfold xMM2 at h
  split at h
  · rw [intK_eq] at h
    cases h
    cases den_int.1 hy
    cases den_int.1 hz
    exact ⟨_, den_int.2 rfl, mm2_r _ _ _⟩
  · obtain ⟨a, b, h1, h2, h3⟩ := hG.mm _ _ _ _ (R.of_ok h) σ
    rw [h1] at hy; rw [h2] at hz
    cases hy; cases hz
    exact ⟨_, h3, mm2_r _ _ _⟩
theorem mma_x (hG : GLok AT GL w0 F) {mx : Bool} : ∀ {xs : List X} {vs : List Value} {y : X} {u : Value}, xMMa GL mx y xs = .ok x → den AT σ y = some u → DL AT σ xs vs → ∃ r, den AT σ x = some r ∧ (vs.foldlM (cond mx Builtin.max2 Builtin.min2) u).run P w = .ok r w
  | [], [], y, u, h, hy, _ => by cases h; exact ⟨u, hy, rfl⟩
  | [], _ :: _, _, _, _, _, h => by cases h
  | _ :: _, [], _, _, _, _, h => by cases h
  | z :: xs, v :: vs, y, u, h, hy, hd => by
    have hz : den AT σ z = some v := (List.cons.inj hd).1
    have hr : DL AT σ xs vs := (List.cons.inj hd).2
    unfold xMMa at h
    obtain ⟨t, h1, h2⟩ := R.bind_ok h
    obtain ⟨r, e1, e2⟩ := mm2_x (P := P) (w := w) hG h1 hy hz
    obtain ⟨q, e3, e4⟩ := mma_x hG h2 e1 hr
    refine ⟨q, e3, ?_⟩
    rw [List.foldlM_cons, Sem.run_bind, e2]
    exact e4
theorem mm_x (hG : GLok AT GL w0 F) {mx : Bool} {xs : List X} {vs : List Value} {ats : Array TypeId} {ty : TypeId} (h : xMM GL mx xs = .ok x) (hd : allB isX xs = true → DL AT σ xs vs) : ∃ v, den AT σ x = some v ∧ ∀ K : Value → WP, K v w → Ex P (cond mx (Builtin.max_ ats ty vs.toArray) (Builtin.min_ ats ty vs.toArray)) K w := by
  unfold xMM at h
  split at h
  · rename_i a r
    obtain ⟨ha, h⟩ := need_ok h
    obtain ⟨hr, h⟩ := need_ok h
    have hd := hd (by simp only [allB, ha, hr, cond_true])
    cases vs with
    | nil => cases hd
    | cons v vs =>
      obtain ⟨n, e1, e2⟩ := mma_x (P := P) (w := w) hG h (List.cons.inj hd).1 (List.cons.inj hd).2
      refine ⟨_, e1, fun K k => ⟨_, w, ?_, k⟩⟩
      cases mx with
      | true => unfold Builtin.max_; exact e2
      | false => unfold Builtin.min_; exact e2
  · cases h
theorem pick_w {c a b : SV} {t : Bool} (hv : c.v = .bool t) (hg : c.Good) {v : Value} (hs : (cond t a b).v = v) (hgs : (cond t a b).Good) {KS : SV → WP} (k : ∀ s : SV, s.v = v → s.Good → KS s w) : PickW c a b KS w := by
  obtain ⟨kn, cv⟩ := c
  change cv = .bool t at hv
  subst hv
  unfold PickW
  cases kn with
  | tt =>
    have this : Value.bool t = .bool true := hg
    cases this
    exact k _ hs hgs
  | ff =>
    have this : Value.bool t = .bool false := hg
    cases this
    exact k _ hs hgs
  | un => exact absurd rfl (hg t)
  | unk =>
    cases t with
    | true => exact k _ hs trivial
    | false => exact k _ hs trivial
theorem read_ok (hAT : ∀ i c, (AT i c).oneCell' = true) (hG : GLok AT GL w0 F) {o : Oper} {E : XE} {ρ : Env} (he : EnvR AT σ E ρ) (d : D w0 (S.bs.map (partB AT P σ) ++ F) w) (h : xRead P GL o E S = .ok x) :
    ∃ v, den AT σ x = some v ∧ ∀ KS : SV → WP, (∀ s : SV, s.v = v → s.Good → KS s w) → OpV P o ρ KS w := by
  obtain ⟨dst, op, ty, pos, after, guard⟩ := o
  have dyk : ∀ {v : Value} {KS : SV → WP}, (∀ s : SV, s.v = v → s.Good → KS s w) → KS (dy v) w := fun k => k _ rfl trivial
  unfold xRead at h
  dsimp only at h
  split at h
  · rename_i c a b
    have key : ∀ t, opX E c = .bool t → isX (cond t (opX E a) (opX E b)) = true → x = cond t (opX E a) (opX E b) → ∃ v, den AT σ x = some v ∧ ∀ KS : SV → WP, (∀ s : SV, s.v = v → s.Good → KS s w) → PickW (evS ρ c) (evS ρ a) (evS ρ b) KS w := by
      intro t hc hx e
      subst e
      obtain ⟨vc, c1, c2, c3⟩ := (op_rel he c).out (by rw [hc]; rfl)
      rw [hc] at c1
      cases den_bool.1 c1
      cases t with
      | true =>
        obtain ⟨v, v1, v2, v3⟩ := (op_rel he a).out hx
        exact ⟨v, v1, fun KS k => pick_w c2 c3 v2 v3 k⟩
      | false =>
        obtain ⟨v, v1, v2, v3⟩ := (op_rel he b).out hx
        exact ⟨v, v1, fun KS k => pick_w c2 c3 v2 v3 k⟩
    split at h
    · rename_i hc
      obtain ⟨hx, h⟩ := need_ok h
      cases h
      exact key true hc hx rfl
    · rename_i hc
      obtain ⟨hx, h⟩ := need_ok h
      cases h
      exact key false hc hx rfl
    · cases h
  · rename_i t parts
    obtain ⟨v, h1, h2⟩ := build_x (w := w) (σ := σ) hAT (vp := evp ρ parts) (by unfold evp; simp [Function.comp_def]) (fun hx => by
      unfold evp
      simp only [List.map_map, Function.comp_def] at hx ⊢
      have := op_dens he (xs := parts.toList.map (·.2)) (by simpa [List.map_map, Function.comp_def] using hx)
      simpa [List.map_map, Function.comp_def] using this) h
    exact ⟨v, h1, fun KS k => h2 _ (dyk k)⟩
  · obtain ⟨va, v, h1, h2, h3⟩ := load_x hG d h
    have e := op_den he (isX_of h1)
    rw [h1] at e; cases e
    exact ⟨v, h2, fun KS k => h3 _ (dyk k)⟩
  · obtain ⟨rfl, h2⟩ := nil_x (w := w) (AT := AT) (σ := σ) h
    rename_i y
    have hx : isX (opX E y) = true := by
      unfold xNil at h
      split at h <;> first | (rename_i hh; rw [hh]; rfl) | cases h
    exact ⟨_, op_den he hx, fun KS k => h2 _ (op_den he hx) (fun v => KS (dy v)) (dyk k)⟩
  · obtain ⟨v, h1, h2⟩ := bin_x (w := w) hG he h
    exact ⟨v, h1, fun KS k => h2 _ (dyk k)⟩
  · obtain ⟨va, v, h1, h2, h3⟩ := un_x (w := w) (AT := AT) (σ := σ) h
    have e := op_den he (isX_of h1)
    rw [h1] at e; cases e
    exact ⟨v, h2, fun KS k => h3 _ (dyk k)⟩
  · obtain ⟨va, v, h1, h2, h3⟩ := conv_x (w := w) (σ := σ) hG h
    have e := op_den he (isX_of h1)
    rw [h1] at e; cases e
    exact ⟨v, h2, fun KS k => h3 _ (dyk k)⟩
  · obtain ⟨i1, h⟩ := need_ok h
    obtain ⟨i2, h⟩ := need_ok h
    cases h
    exact ⟨_, den_fn.2 ⟨_, _, op_dens he i1, op_dens he i2, rfl⟩, fun KS k => dyk k⟩
  · obtain ⟨v, h1, h2⟩ := slice_x (w := w) he h
    exact ⟨v, h1, fun KS k => h2 _ (dyk k)⟩
  · obtain ⟨i1, h2⟩ := fa_x (w := w) (AT := AT) (σ := σ) h
    obtain ⟨v, h3, h4⟩ := h2 _ (op_den he i1)
    exact ⟨v, h3, fun KS k => h4 _ (dyk k)⟩
  · obtain ⟨i1, h2⟩ := field_x (w := w) (AT := AT) (σ := σ) h
    obtain ⟨v, h3, h4⟩ := h2 _ (op_den he i1)
    exact ⟨v, h3, fun KS k => h4 _ (dyk k)⟩
  · obtain ⟨i1, i2, h2⟩ := indexAddr_x (w := w) (AT := AT) (σ := σ) h
    obtain ⟨v, h3, h4⟩ := h2 _ _ (op_den he i1) (op_den he i2)
    exact ⟨v, h3, fun KS k => h4 _ (dyk k)⟩
  · obtain ⟨i1, i2, h2⟩ := index_x (w := w) (AT := AT) (σ := σ) h
    obtain ⟨v, h3, h4⟩ := h2 _ _ (op_den he i1) (op_den he i2)
    exact ⟨v, h3, fun KS k => h4 _ (dyk k)⟩
  · obtain ⟨i1, i2, h2⟩ := lookup_x d h
    obtain ⟨v, h3, h4⟩ := h2 _ _ (op_den he i1) (op_den he i2)
    exact ⟨v, h3, fun KS k => h4 _ (dyk k)⟩
  · rename_i t ix
    have hx : isX x = true ∨ isX x = false := by cases isX x <;> simp
    unfold xExt at h
    split at h
    · rename_i xs ht
      have e := op_den he (x := t) (by rw [ht]; rfl)
      rw [ht] at e
      obtain ⟨vs, hd, hv⟩ := den_tup.1 e
      obtain ⟨v, hv', hxv⟩ := hd.get (R.of_ok h)
      refine ⟨v, hxv, fun KS k => ?_⟩
      show Ext (ev ρ t) ix _ w
      rw [hv]
      unfold Ext
      have : vs.toArray[ix]? = some v := by simpa using hv'
      simp only [this]
      exact dyk k
    · cases h
  · rename_i c
    obtain ⟨callee, args, ats⟩ := c
    dsimp only at h
    have hargs : allB isX (args.toList.map (opX E)) = true → DL AT σ (args.toList.map (opX E)) (args.toList.map (ev ρ)) := fun hx => op_dens he hx
    split at h
    · obtain ⟨v, h1, h2⟩ := len_x (ty := ty) d (fun _ _ _ => trivial) hargs h
      exact ⟨v, h1, fun KS k => h2 _ (dyk k)⟩
    · obtain ⟨v, h1, h2⟩ := mm_x (P := P) (w := w) (ats := ats) (ty := ty) hG h hargs
      exact ⟨v, h1, fun KS k => h2 _ (dyk k)⟩
    · obtain ⟨v, h1, h2⟩ := mm_x (P := P) (w := w) (ats := ats) (ty := ty) hG h hargs
      exact ⟨v, h1, fun KS k => h2 _ (dyk k)⟩
    · cases h
  · cases h
end
end Go.Jac
