/- Appending is right; every operation is. -/
import Derived.Test.YtcdkbkgpgemfgaaGreatDoorKh
set_option maxRecDepth 100000
namespace Go.Jac
open Go

section
variable {AT : Nat → Nat → Value} {P : Program} {GL : Gv} {σ : Sg} {w0 w : World} {F : List HP} {S S' : XS} {x : X} {K : Value → WP}
theorem Rep.drop {b : Nat} {y : XB} (r : Rep AT P w0 F σ S w) (hf : findB S.bs b = some y) : Rep AT P w0 F σ (S.del b) w := by
  obtain ⟨L, d, h1, h2⟩ := r.d.takeB hf
  refine ⟨?_, r.fresh⟩
  have := d.tail
  rw [h2] at this
  exact this
/-- Writing in place, at the end of what is known or within. -/
theorem inplace {b o n es : Nat} {e t : TypeId} {op : Option Nat} {cs ys : List X} {news : List Value} {g : Gh} (r : Rep AT P w0 F σ S w) (hf : findB S.bs b = some (.bl t op cs)) (hg : σ b = some g) (hy : DL AT σ ys news) (ho : o + ys.length ≤ cs.length) :
    (∀ j, j < news.length → (w.cell? ⟨g.ad, g.base + o + j, none⟩).isSome = true) ∧ (∀ j, j < news.length → w.frozen? ⟨g.ad, g.base + o + j, none⟩ = false) ∧ Rep AT P w0 F σ (S.upd b (.bl t op (ow cs o ys))) (w.setCells g.ad (g.base + o) news) := by
  obtain ⟨g', vs, pre, junk, L, h1, h2, h3, h4, d, hset, _⟩ := r.open_ hf
  rw [hg] at h1; cases h1
  have gg : hw w g.ad = some (.cells (pre ++ vs ++ junk).toArray t (0, 0)) := d.get
  have hl := h2.len
  have hn := hy.len
  refine ⟨fun j hj => ?_, fun j hj => free_of gg _, hset _ _ _ (h2.ow hy o) (ow_len _ _ _) ⟨?_, d.2.trans (Kp.setCells _ _ _ _)⟩⟩
  · rw [cell_of gg, List.getElem?_eq_getElem (by simp only [List.length_append]; omega)]; rfl
  · rw [hw_setCells news _ _ w gg]
    have := d.1.set (o' := .cells (splice (pre ++ vs ++ junk) (g.base + o) news).toArray t (0, 0))
    rw [splice_mid (o := o) (by omega) (by omega), ow_splice _ _ _ (by omega)] at this ⊢
    exact this
/-- Writing in place, beyond what is known: the row gets another name. -/
theorem rename {b o len n es : Nat} {t : TypeId} {cs ys : List X} {news : List Value} {g : Gh} {cap : Nat} (r : Rep AT P w0 F σ S w) (hf : findB S.bs b = some (.bl t (some es) cs)) (hg : σ b = some g) (hy : DL AT σ ys news) (hyl : news.length = n * es) (ho : o + len * es ≤ cs.length)
    (hc : o + (len + n) * es ≤ g.cap * es) (hcap : o + cap * es = g.cap * es) :
    (∀ j, j < news.length → (w.cell? ⟨g.ad, g.base + o + len * es + j, none⟩).isSome = true) ∧ (∀ j, j < news.length → w.frozen? ⟨g.ad, g.base + o + len * es + j, none⟩ = false) ∧
      Rep AT P w0 F (σ.add S.nx ⟨g.ad, g.base + o, cap, none⟩) ((S.del b).add (.bl t (some es) ((cs.drop o).take (len * es) ++ ys))) (w.setCells g.ad (g.base + o + len * es) news) := by
  obtain ⟨g', vs, pre, junk, L, h1, h2, h3, h4, d, _, hL⟩ := r.open_ hf
  rw [hg] at h1; cases h1
  dsimp only at h4
  have gg : hw w g.ad = some (.cells (pre ++ vs ++ junk).toArray t (0, 0)) := d.get
  have hl := h2.len
  rw [Nat.add_mul] at hc
  rw [List.length_append] at h4
  refine ⟨fun j hj => ?_, fun j hj => free_of gg _, ?_⟩
  · rw [cell_of gg, List.getElem?_eq_getElem (by simp only [List.length_append]; omega)]; rfl
  · have r' : Rep AT P w0 F σ (S.del b) w := r.drop hf
    have key : splice (pre ++ vs ++ junk) (g.base + o + len * es) news = (pre ++ vs.take o) ++ ((vs.drop o).take (len * es) ++ news) ++ (vs ++ junk).drop (o + len * es + news.length) := by
      rw [splice_eq _ _ _ (by simp only [List.length_append]; omega), ← h3, List.append_assoc pre vs junk]
      have e1 : (pre ++ (vs ++ junk)).take (pre.length + o + len * es) = pre ++ (vs.take o ++ (vs.drop o).take (len * es)) := by
        rw [List.take_append, List.take_of_length_le (by omega), show pre.length + o + len * es - pre.length = o + len * es from by omega, List.take_append_of_le_length (by omega)]
        rw [← List.take_append_drop o (vs.take (o + len * es)), List.take_take, Nat.min_eq_left (by omega), List.drop_take]
        congr 3
        omega
      have e2 : (pre ++ (vs ++ junk)).drop (pre.length + o + len * es + news.length) = (vs ++ junk).drop (o + len * es + news.length) := by
        rw [List.drop_append, List.drop_eq_nil_of_le (by omega), List.nil_append]
        congr 1
        omega
      rw [e1, e2]
      simp only [List.append_assoc]
    refine Rep.grow (S := S.del b) r' ⟨?_, d.2.trans (Kp.setCells _ _ _ _)⟩
    rw [hw_setCells news _ _ w gg]
    have d2 : D w0 (cel g.ad t (pre ++ vs ++ junk) :: ((S.del b).bs.map (partB AT P σ) ++ F)) w := by rw [← hL]; exact d
    have s2 := d2.1.set (o' := .cells (splice (pre ++ vs ++ junk) (g.base + o + len * es) news).toArray t (0, 0))
    rw [key] at s2 ⊢
    refine Sat.hd s2 fun h a => ⟨_, (vs.drop o).take (len * es) ++ news, pre ++ vs.take o, (vs ++ junk).drop (o + len * es + news.length), Sg.add_at _ _ _, ?_, a, ?_, ?_⟩
    · exact (((h2.drop o).take (len * es)).app hy).mono r.le
    · simp only [List.length_append, List.length_take]; omega
    · simp only [List.length_append, List.length_take, List.length_drop]; omega
theorem app_x (hAT : ∀ i c, (AT i c).oneCell' = true) {e : TypeId} {es bytes : Nat} {zero : Array Value} {s y : X} (hz : zero.size = es) (r : Rep AT P w0 F σ S w) (h : xApp S e es bytes s y = .ok (x, S')) : isX s = true ∧ isX y = true ∧ ∀ vs vy, den AT σ s = some vs → den AT σ y = some vy →
    ∀ K : Value → WP, (∀ σ' v w', σ.le σ' → Rep AT P w0 F σ' S' w' → den AT σ' x = some v → K v w') → AppC e es bytes zero vs vy K w := by
  unfold xApp at h
  simp only [XS.updK_eq, XS.addK_eq, XS.delK_eq] at h
  replace h := R.bind_ok h
  obtain ⟨⟨n, ys⟩, hs0, h⟩ := h
  obtain ⟨iy, hsrc⟩ := src_x r.d hs0
  clear hs0
  replace h := need_ok h
  obtain ⟨hes, h⟩ := h
  have hes := blt_lt hes
  dsimp only at h
  cases hn : Nat.beq n 0 with
  | true =>
    rw [hn] at h
    simp only [cond_true] at h
    have hn := beq_eq hn
    subst hn
    have fin : ∀ (vs vy : Value) (q : Option Addr) (l c : Nat), vs = .slice q l c → l ≤ c → den AT σ x = some vs → S' = S → den AT σ y = some vy → ∀ K : Value → WP, (∀ σ' v w', σ.le σ' → Rep AT P w0 F σ' S' w' → den AT σ' x = some v → K v w') → AppC e es bytes zero vs vy K w := by
      rintro vs vy q l c rfl hle hx rfl hy K k
      obtain ⟨news, h1, h2, h3⟩ := hsrc vy hy
      have : news = [] := by
        rw [Nat.zero_mul] at h2; exact List.length_eq_zero_iff.1 h2
      subst this
      exact ⟨q, l, c, 0, [], rfl, h3 (by simp), .inl ⟨rfl, hle, k _ _ _ (Sg.le.refl σ) r hx⟩⟩
    split at h <;> cases h
    · refine ⟨rfl, iy, fun vs vy hs hy => ?_⟩
      cases den_lit.1 hs
      exact fin _ vy _ _ _ rfl (Nat.le_refl _) hs rfl hy
    · refine ⟨rfl, iy, fun vs vy hs hy => ?_⟩
      obtain ⟨hle, g, hg, rfl⟩ := den_sl.1 hs
      exact fin _ vy _ _ _ rfl hle hs rfl hy
    · refine ⟨rfl, iy, fun vs vy hs hy => ?_⟩
      obtain ⟨g, hg, hle, rfl⟩ := den_so.1 hs
      exact fin _ vy _ _ _ rfl (by omega) hs rfl hy
    · refine ⟨rfl, iy, fun vs vy hs hy => ?_⟩
      obtain ⟨g, hg, hle, rfl⟩ := den_se.1 hs
      exact fin _ vy _ _ _ rfl (by omega) hs rfl hy
  | false =>
    rw [hn] at h
    simp only [cond_false] at h
    have hn := beq_ne hn
    replace h := need_ok h
    obtain ⟨hone, h⟩ := h
    replace hsrc : ∀ vy, den AT σ y = some vy → ∃ news, DL AT σ ys news ∧ news.length = n * es ∧ SrcV es vy n news w := fun vy hy => by
      obtain ⟨news, h1, h2, h3⟩ := hsrc vy hy
      exact ⟨news, h1, h2, h3 (ones_ok hAT hone h1)⟩
    split at h
    · replace h := need_ok h
      obtain ⟨e1, h⟩ := h
      replace h := need_ok h
      obtain ⟨e2, h⟩ := h
      cases h
      have e1 := ble_le e1; have e2 := blt_lt e2
      refine ⟨rfl, iy, fun vs vy hs hy K k => ?_⟩
      cases den_lit.1 hs
      obtain ⟨news, h1, h2, h3⟩ := hsrc vy hy
      refine ⟨none, 0, 0, n, news, rfl, h3, .inr (.inr ⟨[], .none rfl rfl, by omega, by omega, growslice_fits (by omega) (by rw [Nat.zero_add]; exact e1), fun c hc => ?_⟩)⟩
      rw [List.nil_append, Nat.zero_add] at *
      refine k _ _ _ r.le (grow_rep (m := n) hz r h1 h2 hc) (den_so.2 ⟨_, Sg.add_at _ _ _, by simpa using hc, rfl⟩)
    · rename_i b o len cap
      split at h
      · rename_i t op cs hf
        replace h := need_ok h
        obtain ⟨e1, h⟩ := h
        have e1 := ble_le e1
        cases hc : Nat.ble (len + n) cap with
        | true =>
          rw [hc] at h
          simp only [cond_true] at h
          replace h := need_ok h
          obtain ⟨e2, h⟩ := h
          cases h
          have e2 := ble_le e2
          have hc := ble_le hc
          refine ⟨rfl, iy, fun vs vy hs hy K k => ?_⟩
          obtain ⟨hle, g, hg, rfl⟩ := den_sl.1 hs
          obtain ⟨news, h1, h2, h3⟩ := hsrc vy hy
          obtain ⟨q1, q2, q3⟩ := inplace (es := es) (e := e) (n := n) r hf hg h1 e2
          rw [← Nat.add_assoc] at q1 q2 q3
          exact ⟨_, len, cap, n, news, rfl, h3, .inr (.inl ⟨_, _, rfl, hc, q1, q2, k _ _ _ (Sg.le.refl σ) q3 (den_sl.2 ⟨hc, g, hg, rfl⟩)⟩)⟩
        | false =>
          rw [hc] at h
          simp only [cond_false] at h
          replace h := need_ok h
          obtain ⟨e2, h⟩ := h
          replace h := need_ok h
          obtain ⟨e3, h⟩ := h
          cases h
          have e2 := ble_le e2; have e3 := blt_lt e3
          have hc : cap < len + n := by
            rcases Nat.lt_or_ge cap (len + n) with h1 | h1
            · exact h1
            · rw [Nat.ble_eq_true_of_le h1] at hc; cases hc
          refine ⟨rfl, iy, fun vs vy hs hy K k => ?_⟩
          obtain ⟨hle, g, hg, rfl⟩ := den_sl.1 hs
          obtain ⟨news, h1, h2, h3⟩ := hsrc vy hy
          obtain ⟨olds, o1, o2, o3⟩ := row_read (n := len) (es := es) r.d hf e1 hg
          refine ⟨_, len, cap, n, news, rfl, h3, .inr (.inr ⟨olds, .some _ rfl o2 o3, hc, by omega, growslice_fits hc e2, fun c hc => ?_⟩)⟩
          exact k _ _ _ r.le (grow_rep (m := len + n) hz r (o1.app h1) (by rw [List.length_append, o2, h2, Nat.add_mul]) hc) (den_so.2 ⟨_, Sg.add_at _ _ _, by simpa using hc, rfl⟩)
      · cases h
    · rename_i b o len kk
      split at h
      · rename_i t es' cs hf
        replace h := need_ok h
        obtain ⟨g1, h⟩ := h
        replace h := need_ok h
        obtain ⟨g2, h⟩ := h
        replace h := need_ok h
        obtain ⟨g3, h⟩ := h
        replace h := need_ok h
        obtain ⟨g4, h⟩ := h
        have g1 := beq_eq g1; have g2 := beq_eq g2; have g3 := beq_eq g3; have g4 := ble_le g4
        subst g1; subst g2
        cases hc : Nat.ble (o + len * es' + ys.length) cs.length with
        | true =>
          rw [hc] at h
          simp only [cond_true] at h
          cases h
          have hc := ble_le hc
          refine ⟨rfl, iy, fun vs vy hs hy K k => ?_⟩
          obtain ⟨g, hg, hle, rfl⟩ := den_so.1 hs
          obtain ⟨news, h1, h2, h3⟩ := hsrc vy hy
          obtain ⟨q1, q2, q3⟩ := inplace (es := es') (e := t) (n := n) r hf hg h1 hc
          rw [← Nat.add_assoc] at q1 q2 q3
          have hfit : len + n ≤ g.cap - kk := by
            obtain ⟨g', us, pre, junk, L, u1, u2, u3, u4, _⟩ := r.open_ hf
            rw [hg] at u1; cases u1
            dsimp only at u4
            rw [List.length_append] at u4
            have l1 := u2.len
            have l2 := h1.len
            have : (kk + len + n) * es' ≤ g.cap * es' := by
              rw [Nat.add_mul, Nat.add_mul, ← g3, ← h2]; omega
            have := Nat.le_of_mul_le_mul_right this hes
            omega
          exact ⟨_, len, g.cap - kk, n, news, rfl, h3, .inr (.inl ⟨_, _, rfl, hfit, q1, q2, k _ _ _ (Sg.le.refl σ) q3 (den_so.2 ⟨g, hg, by omega, rfl⟩)⟩)⟩
        | false =>
          rw [hc] at h
          simp only [cond_false] at h
          replace h := need_ok h
          obtain ⟨e2, h⟩ := h
          replace h := need_ok h
          obtain ⟨e3, h⟩ := h
          cases h
          have e2 := ble_le e2; have e3 := blt_lt e3
          refine ⟨rfl, iy, fun vs vy hs hy K k => ?_⟩
          obtain ⟨g, hg, hle, rfl⟩ := den_so.1 hs
          obtain ⟨news, h1, h2, h3⟩ := hsrc vy hy
          by_cases hroom : len + n ≤ g.cap - kk
          · have hk : kk * es' + (g.cap - kk) * es' = g.cap * es' := by rw [← Nat.add_mul]; congr 1; omega
            have hk2 : (len + n) * es' ≤ (g.cap - kk) * es' := Nat.mul_le_mul_right _ hroom
            obtain ⟨q1, q2, q3⟩ := rename (n := n) (len := len) (cap := g.cap - kk) r hf hg h1 h2 g4 (by rw [g3]; omega) (by rw [g3]; exact hk)
            exact ⟨_, len, g.cap - kk, n, news, rfl, h3, .inr (.inl ⟨_, _, rfl, hroom, q1, q2, k _ _ _ r.le q3 (den_so.2 ⟨_, Sg.add_at _ _ _, by simpa using hroom, rfl⟩)⟩)⟩
          · obtain ⟨olds, o1, o2, o3⟩ := row_read (n := len) (es := es') r.d hf g4 hg
            have hlt : g.cap - kk < len + n := by omega
            refine ⟨_, len, g.cap - kk, n, news, rfl, h3, .inr (.inr ⟨olds, .some _ rfl o2 o3, hlt, by omega, growslice_fits hlt e2, fun c hc => ?_⟩)⟩
            exact k _ _ _ r.le (grow_rep (S := S.del b) (m := len + n) hz (r.drop hf) (o1.app h1) (by rw [List.length_append, o2, h2, Nat.add_mul]) hc) (den_so.2 ⟨_, Sg.add_at _ _ _, by simpa using hc, rfl⟩)
      · cases h
    · rename_i b o1 o kk
      split at h
      · rename_i t es' cs hf
        replace h := need_ok h
        obtain ⟨g1, h⟩ := h
        replace h := need_ok h
        obtain ⟨g2, h⟩ := h
        replace h := need_ok h
        obtain ⟨g3, h⟩ := h
        replace h := need_ok h
        obtain ⟨g4, h⟩ := h
        replace h := need_ok h
        obtain ⟨e2, h⟩ := h
        replace h := need_ok h
        obtain ⟨e3, h⟩ := h
        have g1 := beq_eq g1; have g2 := beq_eq g2; have g3 := beq_eq g3; have g4 := ble_le g4
        subst g1; subst g2
        cases h
        have e2 := ble_le e2; have e3 := blt_lt e3
        refine ⟨rfl, iy, fun vs vy hs hy K k => ?_⟩
        obtain ⟨g, hg, hle, rfl⟩ := den_se.1 hs
        obtain ⟨news, h1, h2, h3⟩ := hsrc vy hy
        by_cases hroom : n ≤ g.cap - kk
        · have hk : kk * es' + (g.cap - kk) * es' = g.cap * es' := by rw [← Nat.add_mul]; congr 1; omega
          have hk2 : n * es' ≤ (g.cap - kk) * es' := Nat.mul_le_mul_right _ hroom
          obtain ⟨q1, q2, q3⟩ := rename (o := o) (n := n) (len := 0) (cap := g.cap - kk) r hf hg h1 h2 (by omega) (by rw [g3, Nat.zero_add]; omega) (by rw [g3]; exact hk)
          rw [if_neg (by omega)]
          rw [Nat.zero_mul, List.take_zero, List.nil_append] at q3
          have : K (.slice (some ⟨g.ad, g.base + o, none⟩) (0 + n) (g.cap - kk)) (w.setCells g.ad (g.base + o + 0) news) := k _ _ _ r.le q3 (by
            rw [Nat.zero_add]
            exact den_so.2 ⟨_, Sg.add_at _ _ _, by simpa using hroom, rfl⟩)
          exact ⟨_, 0, g.cap - kk, n, news, rfl, h3, .inr (.inl ⟨_, _, rfl, by omega, q1, q2, by rw [Nat.zero_mul]; exact this⟩)⟩
        · have hlt : g.cap - kk < 0 + n := by omega
          refine ⟨_, 0, g.cap - kk, n, news, rfl, h3, .inr (.inr ⟨[], .some _ rfl (by simp) (by simp), hlt, by omega, growslice_fits hlt (by rw [Nat.zero_add]; exact e2), fun c hc => ?_⟩)⟩
          rw [List.nil_append, Nat.zero_add] at *
          exact k _ _ _ r.le (grow_rep (S := S.del b) (m := n) hz (r.drop hf) h1 h2 hc) (den_so.2 ⟨_, Sg.add_at _ _ _, by simpa using hc, rfl⟩)
      · cases h
    · cases h
end
end Go.Jac
