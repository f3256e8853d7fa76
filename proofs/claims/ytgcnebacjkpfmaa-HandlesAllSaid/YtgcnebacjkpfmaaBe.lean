/- Drawn regions: what the walk in the order of the text asks, and that it serves every order. -/
import Derived.Test.YtgcnebacjkpfmaaBd
namespace Go.Jac
open Go

/-- Which of a segment's operations have been done (those that touch memory): what holds may hang on that. -/
abbrev MI := (Nat → Bool) → WP
def setM (M : Nat → Bool) (p : Nat) : Nat → Bool := fun q => decide (q = p) || M q
def pureOp (o : Oper) : Bool := match o.op with
  | .move _ => true
  | .assign _ => true
  | _ => false
def np (s : List Oper) (q : Nat) : Bool := match s[q]? with
  | some o => !pureOp o
  | none => false
def npl : List Oper → Nat → List Nat
  | [], _ => []
  | o :: r, k => match o.op with
    | .move _ => npl r (k + 1)
    | .assign _ => npl r (k + 1)
    | _ => k :: npl r (k + 1)
def allM : List Nat → (Nat → Bool) → Prop
  | [], _ => True
  | i :: r, M => M i = true ∧ allM r M
theorem pure_not {o : Oper} (h1 : ∀ x, o.op = .move x → False) (h2 : ∀ x, o.op = .assign x → False) : pureOp o = false := by
  unfold pureOp
  split
  · rename_i e; exact (h1 _ e).elim
  · rename_i e; exact (h2 _ e).elim
  · rfl
theorem allM_of {M : Nat → Bool} : ∀ (s : List Oper) (k : Nat), (∀ q, q < s.length → np s q = true → M (k + q) = true) → allM (npl s k) M
  | [], _, _ => trivial
  | o :: r, k, h => by
    have ih : allM (npl r (k + 1)) M := allM_of r (k + 1) fun q hq hn => by
      have := h (q + 1) (by simp; omega) (by simpa [np] using hn)
      rwa [show k + 1 + q = k + (q + 1) from by omega]
    unfold npl
    split
    · exact ih
    · exact ih
    · rename_i h1 h2
      refine ⟨h 0 (by simp) ?_, ih⟩
      simp [np, pure_not h1 h2]
def QRun (P : Program) (I : MI) (p : Nat) (o : Oper) (ρ : Env) (v : Value) : Prop := ∀ M w, (pureOp o = false → M p = false) → I M w → OpV P o ρ (fun s w' => s.v = v ∧ I (cond (pureOp o) M (setM M p)) w') w
def QRunN (P : Program) (I : MI) (p : Nat) (o : Oper) (ρ : Env) (v : Value) : Prop := ∀ M w, M p = false → I M w → OpV P o ρ (fun s w' => s.v = v ∧ I (setM M p) w') w
def QSkip (I : MI) (p : Nat) (o : Oper) : Prop := ∀ M w, (pureOp o = false → M p = false) → I M w → I (cond (pureOp o) M (setM M p)) w
def QS (I : MI) (p : Nat) (B : Prop) : Prop := (∀ M w, M p = false → I M w → I (setM M p) w) ∧ B
def QSk (I : MI) (p : Nat) (o : Oper) (B : Prop) : Prop := match o.op with
  | .move _ => B
  | .assign _ => B
  | _ => QS I p B
def QOp (P : Program) (I : MI) (p : Nat) (o : Oper) (ρ : Env) (B : SV → Prop) : Prop := match o.op with
  | .move x => B (evS ρ x)
  | .assign x => B (evS ρ x)
  | _ => ∃ v, QRunN P I p o ρ v ∧ B (dy v)
theorem QSk.out {I : MI} {p : Nat} {o : Oper} {B : Prop} (h : QSk I p o B) : QSkip I p o ∧ B := by
  unfold QSk at h
  split at h
  · rename_i x hx
    exact ⟨fun M w _ hw => by rw [show pureOp o = true from by simp [pureOp, hx]]; exact hw, h⟩
  · rename_i x hx
    exact ⟨fun M w _ hw => by rw [show pureOp o = true from by simp [pureOp, hx]]; exact hw, h⟩
  · rename_i h1 h2
    have e := pure_not h1 h2
    exact ⟨fun M w hM hw => by rw [e]; exact h.1 M w (hM e) hw, h.2⟩
theorem QOp.out {P : Program} {I : MI} {p : Nat} {o : Oper} {ρ : Env} {B : SV → Prop} (hG : Gd ρ) (h : QOp P I p o ρ B) : ∃ s, s.Good ∧ QRun P I p o ρ s.v ∧ B s := by
  unfold QOp at h
  split at h
  · rename_i x hx
    exact ⟨_, good_evS hG x, fun M w _ hw => by unfold OpV; rw [hx]; exact ⟨rfl, by rw [show pureOp o = true from by simp [pureOp, hx]]; exact hw⟩, h⟩
  · rename_i x hx
    exact ⟨_, good_evS hG x, fun M w _ hw => by unfold OpV; rw [hx]; exact ⟨rfl, by rw [show pureOp o = true from by simp [pureOp, hx]]; exact hw⟩, h⟩
  · rename_i h1 h2
    obtain ⟨v, h3, h4⟩ := h
    have e := pure_not h1 h2
    exact ⟨dy v, trivial, fun M w hM hw => by rw [e]; exact h3 M w (hM e) hw, h4⟩
def GrdQ (x : Value) (b : Bool) (t e : Prop) : Prop := ∃ c, x = .bool c ∧ (c = b → t) ∧ (c = (!b) → e)
def GrdP (x : SV) (b : Bool) (t e u : Prop) : Prop := match x.k with
  | .tt => cond b t e
  | .ff => cond b e t
  | .un => u
  | .unk => GrdQ x.v b t e
theorem GrdP_cases {x : SV} (hg : x.Good) {b : Bool} {t e u : Prop} (h : GrdP x b t e u) : (x.v = .bool b ∧ t) ∨ (x.v = .bool (!b) ∧ e) ∨ ((∀ c, x.v ≠ .bool c) ∧ u) := by
  obtain ⟨k, v⟩ := x
  cases k with
  | tt =>
    have hv : v = .bool true := hg
    subst hv
    cases b
    · exact .inr (.inl ⟨rfl, h⟩)
    · exact .inl ⟨rfl, h⟩
  | ff =>
    have hv : v = .bool false := hg
    subst hv
    cases b
    · exact .inl ⟨rfl, h⟩
    · exact .inr (.inl ⟨rfl, h⟩)
  | un => exact .inr (.inr ⟨hg, h⟩)
  | unk =>
    obtain ⟨c, hc, h1, h2⟩ := h
    simp only at hc
    subst hc
    by_cases e : c = b
    · subst e; exact .inl ⟨rfl, h1 rfl⟩
    · have : c = !b := by cases c <;> cases b <;> simp_all
      exact .inr (.inl ⟨by rw [this], h2 this⟩)
def WQ (P : Program) (all : List Oper) (I : MI) : List Oper → Nat → Env → (Env → Prop) → Prop
  | [], _, ρ, C => C ρ
  | o :: r, p, ρ, C => match o.guard with
    | none => QOp P I p o ρ fun v => WQ P all I r (p + 1) (ρ.put o.dst v) C
    | some (j, b) => match dstAt all j with
      | some g => GrdP (ρ g) b (QOp P I p o (ρ.upd g (sb b)) fun v => WQ P all I r (p + 1) ((ρ.upd g (sb b)).put o.dst v) C) (QSk I p o (WQ P all I r (p + 1) ((ρ.upd g (sb (!b))).put o.dst su) C)) (QSk I p o (WQ P all I r (p + 1) (ρ.put o.dst su) C))
      | none => False
def QtC (F : MI → Prop) : WP := fun w => ∃ I : MI, I (fun _ => false) w ∧ F I
def QE (I : MI) (p : Nat) (A : (Value → WP) → WP) (B : Value → Prop) : Prop := ∃ v, (∀ M w, M p = false → I M w → A (fun v' w' => v' = v ∧ I (setM M p) w') w) ∧ B v
def QEnd (I : MI) (l : List Nat) (A : WP) : Prop := ∀ M w', allM l M → I M w' → A w'
def Drw (A : WP) : WP := fun w => A { w with drawn := w.drawn + 1 }
def AllE (A : WP) : WP := fun w => ∀ _ : Env, A w
def WDr (P : Program) (all : List Oper) : List (List Oper) → Env → (Env → WP) → WP
  | [], ρ, K => K ρ
  | [o] :: r, ρ, K => WOps P all [o] ρ fun ρ' => WDr P all r ρ' K
  | s :: r, ρ, K => fun w => ∃ I : MI, I (fun _ => false) w ∧ WQ P all I s 0 ρ fun ρ' => ∀ M w', allM (npl s 0) M → I M w' → WDr P all r ρ' K w'

/-! ### The facts that such a walk leaves -/
def QAt (P : Program) (I : MI) (p : Nat) (o : Oper) (E : VEnv) (v : Value) : Prop := ∃ ρ : Env, ρ.val = E ∧ Gd ρ ∧ QRun P I p o ρ v
def QStep (P : Program) (all : List Oper) (I : MI) (p : Nat) (o : Oper) (E : VEnv) (v : Value) : Prop := match o.guard with
  | none => QAt P I p o E v
  | some (j, b) => ∃ g, dstAt all j = some g ∧ ((E g = .bool b ∧ QAt P I p o E v) ∨ (E g ≠ .bool b ∧ v = undef ∧ QSkip I p o))
def QF (P : Program) (all : List Oper) (I : MI) : Nat → List Oper → List Value → VEnv → VEnv → Prop
  | _, [], [], ρ, ρe => ρe = ρ
  | p, o :: r, v :: vs, ρ, ρe => QStep P all I p o ρ v ∧ QF P all I (p + 1) r vs (ρ.put o.dst v) ρe
  | _, _, _, _, _ => False
theorem wq_facts {P : Program} {all : List Oper} {I : MI} : ∀ (r : List Oper) (p : Nat) (ρ : Env) (C : Env → Prop), Gd ρ → WQ P all I r p ρ C → ∃ vs ρe, Gd ρe ∧ QF P all I p r vs ρ.val ρe.val ∧ C ρe
  | [], _, ρ, C, hG, h => ⟨[], ρ, hG, rfl, h⟩
  | o :: r, p, ρ, C, hG, h => by
    unfold WQ at h
    cases hg : o.guard with
    | none =>
      rw [hg] at h
      obtain ⟨s, hs, hv, h⟩ := QOp.out hG h
      obtain ⟨vs, ρe, hGe, hq, hc⟩ := wq_facts r (p + 1) _ C (hG.put _ hs) h
      rw [Env.val_put] at hq
      exact ⟨s.v :: vs, ρe, hGe, ⟨by unfold QStep; rw [hg]; exact ⟨ρ, rfl, hG, hv⟩, hq⟩, hc⟩
    | some jb =>
      obtain ⟨j, b⟩ := jb
      rw [hg] at h
      dsimp only at h
      cases hd : dstAt all j with
      | none => rw [hd] at h; exact h.elim
      | some g =>
        rw [hd] at h
        dsimp only at h
        rcases GrdP_cases (hG g) h with ⟨hx, h⟩ | ⟨hx, h⟩ | ⟨hx, h⟩
        · have hv1 : (ρ.upd g (sb b)).val = ρ.val := Env.val_know (by rw [sb_v]; exact hx)
          obtain ⟨s, hs, hv, h⟩ := QOp.out (hG.upd g (good_sb b)) h
          obtain ⟨vs, ρe, hGe, hq, hc⟩ := wq_facts r (p + 1) _ C ((hG.upd g (good_sb b)).put _ hs) h
          rw [Env.val_put, hv1] at hq
          exact ⟨s.v :: vs, ρe, hGe, ⟨by unfold QStep; rw [hg]; exact ⟨g, hd, .inl ⟨hx, _, hv1, hG.upd g (good_sb b), hv⟩⟩, hq⟩, hc⟩
        · have hv1 : (ρ.upd g (sb (!b))).val = ρ.val := Env.val_know (by rw [sb_v]; exact hx)
          obtain ⟨hsk, h⟩ := h.out
          obtain ⟨vs, ρe, hGe, hq, hc⟩ := wq_facts r (p + 1) _ C ((hG.upd g (good_sb _)).put _ good_su) h
          rw [Env.val_put, hv1] at hq
          exact ⟨undef :: vs, ρe, hGe, ⟨by unfold QStep; rw [hg]; exact ⟨g, hd, .inr ⟨by rw [show ρ.val g = _ from hx]; cases b <;> simp, rfl, hsk⟩⟩, hq⟩, hc⟩
        · obtain ⟨hsk, h⟩ := h.out
          obtain ⟨vs, ρe, hGe, hq, hc⟩ := wq_facts r (p + 1) _ C (hG.put _ good_su) h
          rw [Env.val_put] at hq
          exact ⟨undef :: vs, ρe, hGe, ⟨by unfold QStep; rw [hg]; exact ⟨g, hd, .inr ⟨hx b, rfl, hsk⟩⟩, hq⟩, hc⟩

/-- The environment behind those operations of a segment that T says. -/
def ET : List Oper → List Value → (Nat → Bool) → VEnv → VEnv
  | o :: r, v :: vs, T, ρ => ET r vs (fun q => T (q + 1)) (cond (T 0) (ρ.put o.dst v) ρ)
  | _, _, _, ρ => ρ
theorem ET_none : ∀ (s : List Oper) (vs : List Value) (T : Nat → Bool) (ρ : VEnv) (t : Nat), (∀ q o, s[q]? = some o → o.dst = some t → T q = false) → ET s vs T ρ t = ρ t
  | [], _, _, _, _, _ => rfl
  | _ :: _, [], _, _, _, _ => rfl
  | o :: r, v :: vs, T, ρ, t, h => by
    rw [ET, ET_none r vs _ _ t fun q o' ho hd => h (q + 1) o' (by simpa using ho) hd]
    cases h0 : T 0 with
    | false => rfl
    | true =>
      refine VEnv.put_keep fun x hx e => ?_
      have := h 0 o rfl (by rw [hx, e])
      rw [h0] at this; cases this
theorem ET_congr : ∀ (s : List Oper) (vs : List Value) (T T' : Nat → Bool) (ρ ρ' : VEnv) (t : Nat), (∀ q o, s[q]? = some o → o.dst = some t → T q = T' q) → ρ t = ρ' t → ET s vs T ρ t = ET s vs T' ρ' t
  | [], _, _, _, _, _, _, _, h => h
  | _ :: _, [], _, _, _, _, _, _, h => h
  | o :: r, v :: vs, T, T', ρ, ρ', t, h, he => by
    rw [ET, ET]
    refine ET_congr r vs _ _ _ _ t (fun q o' ho hd => h (q + 1) o' (by simpa using ho) hd) ?_
    cases hd : o.dst with
    | none => cases T 0 <;> cases T' 0 <;> simp [VEnv.put, he]
    | some x =>
      by_cases e : t = x
      · subst e
        rw [h 0 o rfl hd]
        cases T' 0 <;> simp [VEnv.put, he, VEnv.upd_same]
      · cases T 0 <;> cases T' 0 <;> simp [VEnv.put, he, VEnv.upd_ne _ _ e]
theorem ET_at : ∀ (s : List Oper) (vs : List Value) (T : Nat → Bool) (ρ : VEnv) (p : Nat) (o : Oper) (v : Value) (t : Nat), s[p]? = some o → vs[p]? = some v → o.dst = some t → T p = true →
    (∀ q o', s[q]? = some o' → o'.dst = some t → p < q → T q = false) → ET s vs T ρ t = v
  | [], _, _, _, _, _, _, _, h, _, _, _, _ => by simp at h
  | _ :: _, [], _, _, _, _, _, _, _, h, _, _, _ => by simp at h
  | o :: r, v :: vs, T, ρ, 0, o', v', t, ho, hv, hd, hT, h => by
    simp only [List.getElem?_cons_zero, Option.some.injEq] at ho hv
    subst ho; subst hv
    rw [ET, ET_none r vs _ _ t fun q o' ho hd' => h (q + 1) o' (by simpa using ho) hd' (by omega), hT]
    simp [VEnv.put, hd, VEnv.upd_same]
  | o :: r, v :: vs, T, ρ, p + 1, o', v', t, ho, hv, hd, hT, h => by
    rw [ET]
    exact ET_at r vs _ _ p o' v' t (by simpa using ho) (by simpa using hv) hd hT fun q o'' ho'' hd'' hlt => h (q + 1) o'' (by simpa using ho'') hd'' (by omega)
theorem ET_all {P : Program} {all : List Oper} {I : MI} : ∀ (s : List Oper) (vs : List Value) (T : Nat → Bool) (ρ ρe : VEnv) {p : Nat}, QF P all I p s vs ρ ρe → (∀ q, q < s.length → T q = true) → ET s vs T ρ = ρe
  | [], [], _, _, _, _, h, _ => h.symm
  | [], _ :: _, _, _, _, _, h, _ => h.elim
  | _ :: _, [], _, _, _, _, h, _ => h.elim
  | o :: r, v :: vs, T, ρ, ρe, _, h, hT => by
    rw [ET, hT 0 (by simp), cond_true]
    exact ET_all r vs _ _ _ h.2 fun q hq => hT (q + 1) (by simp; omega)
/-- What is known of the operation at p, told of the environment behind the p ahead of it. -/
theorem QF_at {P : Program} {all : List Oper} {I : MI} : ∀ (s : List Oper) (vs : List Value) (ρ ρe : VEnv) (k : Nat), QF P all I k s vs ρ ρe → ∀ p o, s[p]? = some o → ∃ v, vs[p]? = some v ∧ QStep P all I (k + p) o (ET s vs (fun q => decide (q < p)) ρ) v
  | [], _, _, _, _, _, p, o, ho => by simp at ho
  | _ :: _, [], _, _, _, h, _, _, _ => h.elim
  | o :: r, v :: vs, ρ, ρe, k, h, 0, o', ho => by
    simp only [List.getElem?_cons_zero, Option.some.injEq] at ho
    subst ho
    refine ⟨v, rfl, ?_⟩
    have : ET (o :: r) (v :: vs) (fun q => decide (q < 0)) ρ = ρ := by
      funext t; exact ET_none _ _ _ _ _ fun q o' _ _ => by simp
    rw [this]; exact h.1
  | o :: r, v :: vs, ρ, ρe, k, h, p + 1, o', ho => by
    obtain ⟨v', hv', hq⟩ := QF_at r vs _ ρe (k + 1) h.2 p o' (by simpa using ho)
    refine ⟨v', by simpa using hv', ?_⟩
    rw [show k + 1 + p = k + (p + 1) from by omega] at hq
    rw [ET]
    have : (cond (decide (0 < p + 1)) (ρ.put o.dst v) ρ) = ρ.put o.dst v := by simp
    rw [this]
    have e : (fun q => decide (q + 1 < p + 1)) = fun q => decide (q < p) := by funext q; simp
    rw [e]; exact hq
end Go.Jac
