/- Maps gone through; rows cleared and copied: right. -/
import Derived.Test.YtcdkbkgpgemfgaaGreatDoorKo
set_option maxRecDepth 100000
namespace Go.Jac
open Go

section
variable {AT : Nat → Nat → Value} {P : Program} {GL : Gv} {σ : Sg} {w0 w : World} {F L : List HP} {S S' : XS} {x : X} {K : Value → WP}
theorem hasI_cons {a k : Int} {r : List Int} : hasI (a :: r) k = true ↔ k = a ∨ hasI r k = true := by
  show cond (decide (a = k)) true (hasI r k) = true ↔ _
  by_cases h : a = k
  · subst h; simp
  · have h' : ¬ k = a := fun e => h e.symm
    simp [h, h']
theorem rest_mem {seen : List Int} {es : List (Int × X)} {k : Int} {y : X} : (k, y) ∈ restM seen es ↔ (k, y) ∈ es ∧ hasI seen k = false := by
  induction es with
  | nil => simp [restM]
  | cons p r ih =>
    obtain ⟨k', z⟩ := p
    unfold restM
    cases hs : hasI seen k' with
    | true =>
      simp only [cond_true, List.mem_cons, Prod.mk.injEq]
      rw [ih]
      constructor
      · rintro ⟨h1, h2⟩; exact ⟨.inr h1, h2⟩
      · rintro ⟨⟨rfl, rfl⟩ | h1, h2⟩
        · rw [hs] at h2; cases h2
        · exact ⟨h1, h2⟩
    | false =>
      simp only [cond_false, List.mem_cons, Prod.mk.injEq]
      rw [ih]
      constructor
      · rintro (⟨rfl, rfl⟩ | ⟨h1, h2⟩)
        · exact ⟨.inl ⟨rfl, rfl⟩, hs⟩
        · exact ⟨.inr h1, h2⟩
      · rintro ⟨⟨rfl, rfl⟩ | h1, h2⟩
        · exact .inl ⟨rfl, rfl⟩
        · exact .inr ⟨h1, h2⟩
theorem gm_mem {es : List (Int × X)} (hd : ∀ p ∈ es, ∃ v, den AT σ p.2 = some v) {k : Int} {v : Value} (h : gm AT σ es k = some v) : ∃ y, (k, y) ∈ es ∧ den AT σ y = some v := by
  unfold gm at h
  rw [Option.bind_eq_some_iff] at h
  obtain ⟨y, h1, h2⟩ := h
  exact ⟨y, lkM_mem h1, h2⟩
theorem lkM_of_mem {es : List (Int × X)} (hn : (es.map (·.1)).Nodup) {k : Int} {y : X} (h : (k, y) ∈ es) : lkM es k = some y := by
  induction es with
  | nil => cases h
  | cons p r ih =>
    obtain ⟨k', z⟩ := p
    rw [List.map_cons, List.nodup_cons] at hn
    unfold lkM
    rcases List.mem_cons.1 h with e | h
    · cases e; simp
    · have : k' ≠ k := fun e => hn.1 (e ▸ List.mem_map.2 ⟨_, h, rfl⟩)
      simp only [this, decide_false, cond_false]
      exact ih hn.2 h
theorem gm_of_mem {es : List (Int × X)} (hn : (es.map (·.1)).Nodup) {k : Int} {y : X} {v : Value} (h : (k, y) ∈ es) (hv : den AT σ y = some v) : gm AT σ es k = some v := by
  unfold gm; rw [lkM_of_mem hn h]; exact hv
theorem range_x {t : TypeId} {m : X} (r : Rep AT P w0 F σ S w) (h : xRange P S t m = .ok (x, S')) : isX m = true ∧ ∀ vm, den AT σ m = some vm →
    ∀ K : Value → WP, (∀ σ' v w', σ.le σ' → Rep AT P w0 F σ' S' w' → den AT σ' x = some v → K v w') → Ex P (Instr.range t vm) K w := by
  unfold xRange at h
  split at h
  · rename_i kt et hu
    replace h := need_ok h
    obtain ⟨hk, h⟩ := h
    split at h
    · rename_i b
      split at h
      · rename_i es hf
        rw [XS.delK_eq, XS.addK_eq] at h
        cases h
        refine ⟨rfl, fun vm hm K k => ?_⟩
        obtain ⟨L, d, _, hL⟩ := r.d.takeB hf
        obtain ⟨⟨hh1, hh2, s, ⟨g, e1, e2, e0, e3⟩, l⟩, kp⟩ := d
        obtain ⟨g', hg', rfl⟩ := den_mp.1 hm
        rw [e1] at hg'; cases hg'
        have d : D w0 (Mp g.ad (gm AT σ es) es.length :: L) w := ⟨⟨hh1, hh2, s, e3, l⟩, kp⟩
        refine srange_ok hu d fun q m w' d' => ?_
        have r1 : ∀ n, (S.del b).nx ≤ n → σ n = none := r.fresh
        have hle : σ.le (σ.add S.nx ⟨q, 0, 0, none⟩) := r.le
        refine k (σ.add S.nx ⟨q, 0, 0, none⟩) _ w' hle ⟨?_, fun n hn => ?_⟩ (den_ptr.2 ⟨_, Sg.add_at _ _ _, rfl⟩)
        · obtain ⟨⟨k1, k2, s', a, l'⟩, kp'⟩ := d'
          rw [hL] at l'
          refine ⟨⟨k1, k2, s', ⟨_, g, m, none, Sg.add_at _ _ _, rfl, hle _ _ e1, defd_mono hle e2, e0, rfl, ?_⟩, Sat.mapm (partB_mono hle) _ l'⟩, kp'⟩
          rw [gm_mono hle e2]
          have hQ : (fun k => hasI [] k = true) = fun _ => False := by funext k; simp [hasI]
          rw [hQ]
          exact a
        · have hn : S.nx + 1 ≤ n := hn
          unfold Sg.add
          rw [if_neg (by omega)]
          exact r.fresh n (by omega)
      · cases h
    · cases h
  · cases h
theorem next_x {ty : TypeId} {it : X} {isS : Bool} (r : Rep AT P w0 F σ S w) (h : xNext S it isS = .ok (x, S')) : isX it = true ∧ ∀ vi, den AT σ it = some vi →
    ∀ K : Value → WP, (∀ σ' v w', σ.le σ' → Rep AT P w0 F σ' S' w' → den AT σ' x = some v → K v w') → Ex P (Instr.next vi isS ty) K w := by
  unfold xNext at h
  cases isS with
  | true => cases h
  | false =>
    simp only [cond_false] at h
    split at h
    · rename_i rn
      split at h
      · rename_i b es seen cur hf
        obtain ⟨L, d, h1, hL⟩ := r.d.takeB hf
        obtain ⟨⟨hh1, hh2, s, ⟨g, q, m, c, e1, e1', e1'', e2, e0, e3, e4⟩, l⟩, kp⟩ := d
        have d : D w0 (Mis g.ad q.ad (gm AT σ es) es.length m (fun k => hasI seen k = true) c :: L) w := ⟨⟨hh1, hh2, s, e4, l⟩, kp⟩
        have hptr : ∀ vi, den AT σ (.ptr rn 0) = some vi → vi = .pointer (some ⟨g.ad, 0, none⟩) := fun vi hi => by
          obtain ⟨g', hg', rfl⟩ := den_ptr.1 hi
          rw [e1] at hg'; cases hg'
          rw [e1']
        split at h
        · rename_i hr
          rw [XS.delK_eq] at h
          cases h
          refine ⟨rfl, fun vi hi K k => ?_⟩
          rw [hptr vi hi]
          refine snextN_ok d (fun _ w' d' => ?_) fun m' k' v' w' _ hnq hg => ?_
          · refine k σ _ w' (Sg.le.refl σ) ⟨?_, r.fresh⟩ (den_tup.2 ⟨[.bool false], rfl, rfl⟩)
            have d2 := Mis.map d'
            obtain ⟨⟨k1, k2, s', a, l'⟩, kp'⟩ := d2
            rw [hL] at l'
            exact ⟨⟨k1, k2, s', ⟨q, e1'', e2, e0, a⟩, l'⟩, kp'⟩
          · obtain ⟨y, hy, _⟩ := gm_mem e2 hg
            have : (k', y) ∈ restM seen es := rest_mem.2 ⟨hy, by cases hs : hasI seen k' with | true => exact absurd hs hnq | false => rfl⟩
            rw [hr] at this; cases this
        · rename_i kx yx hr
          rw [XS.updK_eq] at h
          cases h
          refine ⟨rfl, fun vi hi K k => ?_⟩
          rw [hptr vi hi]
          have hmem : (kx, yx) ∈ es ∧ hasI seen kx = false := rest_mem.1 (by rw [hr]; simp)
          obtain ⟨vx, hvx⟩ := e2 _ hmem.1
          refine snextN_ok d (fun hall w' d' => ?_) fun m' k' v' w' _ hnq hg d' => ?_
          · have := hall kx vx (gm_of_mem e0 hmem.1 hvx)
            rw [hmem.2] at this; cases this
          · obtain ⟨y, hy, hyv⟩ := gm_mem e2 hg
            have hin : (k', y) ∈ restM seen es := rest_mem.2 ⟨hy, by cases hs : hasI seen k' with | true => exact absurd hs hnq | false => rfl⟩
            rw [hr] at hin
            cases List.mem_singleton.1 hin
            refine k σ _ w' (Sg.le.refl σ) ⟨h1 _ w' ?_, r.fresh⟩ (den_tup.2 ⟨[.bool true, .int .i64 kx, v'], DL.cons (den_bool.2 rfl) (DL.cons (den_int.2 rfl) (DL.cons hyv DL.nil)), rfl⟩)
            obtain ⟨⟨k1, k2, s', a, l'⟩, kp'⟩ := d'
            refine ⟨⟨k1, k2, s', ⟨g, q, m', some (kx, v'), e1, e1', e1'', e2, e0, ⟨v', hyv, rfl⟩, ?_⟩, l'⟩, kp'⟩
            have hQ : (fun i => hasI (kx :: seen) i = true) = fun i => i = kx ∨ hasI seen i = true := by
              funext i
              exact propext hasI_cons
            rw [hQ]
            exact a
        · cases h
      · cases h
    · cases h
theorem entry_x {it : X} (r : Rep AT P w0 F σ S w) (h : xEntry S it = .ok (x, S')) : isX it = true ∧ ∀ vi, den AT σ it = some vi →
    ∀ K : Value → WP, (∀ σ' v w', σ.le σ' → Rep AT P w0 F σ' S' w' → den AT σ' x = some v → K v w') → Ex P (Instr.entry vi) K w := by
  unfold xEntry at h
  split at h
  · rename_i rn
    split at h
    · rename_i b es seen kx yx hf
      cases h
      refine ⟨rfl, fun vi hi K k => ?_⟩
      obtain ⟨L, d, _, _⟩ := r.d.takeB hf
      obtain ⟨⟨hh1, hh2, s, ⟨g, q, m, c, e1, e1', e1'', e2, e0, ⟨v, hv, rfl⟩, e4⟩, l⟩, kp⟩ := d
      have d : D w0 (Mis g.ad q.ad (gm AT σ es) es.length m (fun k => hasI seen k = true) (some (kx, v)) :: L) w := ⟨⟨hh1, hh2, s, e4, l⟩, kp⟩
      obtain ⟨g', hg', rfl⟩ := den_ptr.1 hi
      rw [e1] at hg'; cases hg'
      rw [e1']
      exact sentry_ok d (k σ _ w (Sg.le.refl σ) r (den_tup.2 ⟨[.int .i64 kx, v], DL.cons (den_int.2 rfl) (DL.cons hv DL.nil), rfl⟩))
    · cases h
  · cases h
/-! ### Rows cleared, rows copied -/
theorem elem_out {t : TypeId} {e : TypeId × TypeInfo × Value} (h : xElem P t = .ok e) : P.underlying t = some (.slice e.1) ∧ P.info? e.1 = some e.2.1 ∧ e.2.1.zero = some e.2.2 := by
  unfold xElem at h
  split at h
  · rename_i e' hu
    split at h
    · rename_i i hi
      split at h
      · rename_i z hz
        cases h
        exact ⟨hu, hi, hz⟩
      · cases h
    · cases h
  · cases h
theorem elemV_of {t : TypeId} {e : TypeId × TypeInfo × Value} (h : xElem P t = .ok e) {C : TypeId → TypeInfo → Value → WP} (hC : C e.1 e.2.1 e.2.2 w) : elemV P t C w := by
  obtain ⟨h1, h2, h3⟩ := elem_out h
  unfold elemV
  rw [h1]; dsimp only; rw [h2]; dsimp only; rw [h3]
  exact hC
theorem clear_x {ats : Array TypeId} {ty : TypeId} {xs : List X} {vs : List Value} (hv : allB isX xs = true → DL AT σ xs vs) (r : Rep AT P w0 F σ S w) (h : xClear P S ats.toList xs = .ok (x, S')) :
    ∀ K : Value → WP, (∀ σ' v w', σ.le σ' → Rep AT P w0 F σ' S' w' → den AT σ' x = some v → K v w') → clrV P ats ty vs.toArray ats.toList vs K w := by
  intro K k
  unfold xClear at h
  split at h
  · rename_i t y hats
    rw [hats]
    obtain ⟨e, h0, h⟩ := R.bind_ok h
    obtain ⟨hu, _, _⟩ := elem_out h0
    have hone : isX y = true → ∃ va, vs = [va] ∧ den AT σ y = some va := fun ha => by
      have := hv (by simp [allB, ha])
      cases vs with
      | nil => cases this
      | cons va l =>
        cases l with
        | nil => exact ⟨va, rfl, (List.cons.inj this).1⟩
        | cons _ _ => have := congrArg List.length this; simp at this
    have fin : ∀ va, vs = [va] → Ex P (clrS e.2.2.cells va) K w → clrV P ats ty vs.toArray [t] vs K w := by
      rintro va rfl hx
      unfold clrV
      dsimp only
      rw [hu]
      exact elemV_of h0 hx
    have blk : ∀ {b o n c : Nat} {t' : TypeId} {op : Option Nat} {cs : List X} {g : Gh}, findB S.bs b = some (.bl t' op cs) → σ b = some g → 0 < n → o + n * e.2.2.cells.size ≤ cs.length → allB Value.oneCell' e.2.2.cells.toList = true → x = .tup [] → S' = S.upd b (.bl t' op (ow cs o ((Builtin.zeroCells e.2.2.cells n).toList.map of1))) →
        Ex P (clrS e.2.2.cells (.slice (some ⟨g.ad, g.base + o, none⟩) n c)) K w := by
      rintro b o n c t' op cs g hf hg hn hle h1 rfl rfl
      obtain ⟨g', us, pre, junk, L, u1, u2, u3, u4, d, hset, _⟩ := r.open_ hf
      rw [hg] at u1; cases u1
      have hl := u2.len
      have hz : (Builtin.zeroCells e.2.2.cells n).toList.length = n * e.2.2.cells.size := by rw [Array.length_toList, size_zeroCells]
      refine clr_ok d hn (allB_iff.1 h1) (by simp only [List.length_append]; omega) fun w' d' => ?_
      refine k σ _ w' (Sg.le.refl σ) (hset _ _ w' (u2.ow (DL.of1s _) o) (ow_len _ _ _) ?_) (den_tup.2 ⟨[], DL.nil, rfl⟩)
      rw [splice_mid (o := o) (by omega) (by omega), ow_splice _ _ _ (by omega)] at d'
      exact d'
    split at h
    · cases h
      obtain ⟨va, rfl, ha⟩ := hone rfl
      cases den_lit.1 ha
      exact fin _ rfl ⟨_, w, rfl, k σ _ w (Sg.le.refl σ) r (den_tup.2 ⟨[], DL.nil, rfl⟩)⟩
    · rename_i b o n c _
      obtain ⟨va, rfl, ha⟩ := hone rfl
      obtain ⟨_, g, hg, rfl⟩ := den_sl.1 ha
      cases hn : Nat.beq n 0 with
      | true =>
        rw [hn] at h
        cases h
        have hn := beq_eq hn
        subst hn
        exact fin _ rfl (clr_0 (k σ _ w (Sg.le.refl σ) r (den_tup.2 ⟨[], DL.nil, rfl⟩)))
      | false =>
        rw [hn] at h
        simp only [cond_false] at h
        have hn := beq_ne hn
        split at h
        · rename_i hf
          obtain ⟨q1, h⟩ := need_ok h
          obtain ⟨q2, h⟩ := need_ok h
          rw [XS.updK_eq] at h
          cases h
          exact fin _ rfl (blk hf hg (by omega) (ble_le q1) q2 rfl rfl)
        · cases h
    · rename_i b o n c _
      obtain ⟨va, rfl, ha⟩ := hone rfl
      obtain ⟨g, hg, _, rfl⟩ := den_so.1 ha
      cases hn : Nat.beq n 0 with
      | true =>
        rw [hn] at h
        cases h
        have hn := beq_eq hn
        subst hn
        exact fin _ rfl (clr_0 (k σ _ w (Sg.le.refl σ) r (den_tup.2 ⟨[], DL.nil, rfl⟩)))
      | false =>
        rw [hn] at h
        simp only [cond_false] at h
        have hn := beq_ne hn
        split at h
        · rename_i hf
          obtain ⟨q1, h⟩ := need_ok h
          obtain ⟨q2, h⟩ := need_ok h
          rw [XS.updK_eq] at h
          cases h
          exact fin _ rfl (blk hf hg (by omega) (ble_le q1) q2 rfl rfl)
        · cases h
    · cases h
      obtain ⟨va, rfl, ha⟩ := hone rfl
      obtain ⟨g, hg, _, rfl⟩ := den_se.1 ha
      exact fin _ rfl (clr_0 (k σ _ w (Sg.le.refl σ) r (den_tup.2 ⟨[], DL.nil, rfl⟩)))
    · cases h
  · cases h
end
end Go.Jac
