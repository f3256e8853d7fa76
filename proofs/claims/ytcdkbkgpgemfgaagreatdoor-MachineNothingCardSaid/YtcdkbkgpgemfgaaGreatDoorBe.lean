/- Drawn regions: what the walk asks: operations that only read have values known ahead; the others are in a row. -/
import Derived.Test.YtcdkbkgpgemfgaaGreatDoorBd
namespace Go.Jac
open Go

def pureOp (o : Oper) : Bool := match o.op with
  | .move _ => true
  | .assign _ => true
  | _ => false
/-- What reads no memory. -/
def noMem (o : Oper) : Bool := match o.op with
  | .move _ => true
  | .assign _ => true
  | .pick _ _ _ => true
  | .build _ _ => true
  | .nilCheck _ => true
  | .binOp _ _ _ _ _ => true
  | .unOp _ _ _ => true
  | .convert _ _ _ => true
  | .makeFunc _ _ _ => true
  | .slice _ _ _ _ _ => true
  | .fieldAddr _ _ _ => true
  | .field _ _ _ => true
  | .indexAddr _ _ _ => true
  | .index _ _ _ => true
  | .extract _ _ => true
  | _ => false
theorem pure_not {o : Oper} (h1 : ∀ x, o.op = .move x → False) (h2 : ∀ x, o.op = .assign x → False) : pureOp o = false := by
  unfold pureOp
  split
  · rename_i e; exact (h1 _ e).elim
  · rename_i e; exact (h2 _ e).elim
  · rfl
/-- What only reads. -/
def readOp (o : Oper) : Bool := match o.op with
  | .move _ => true
  | .assign _ => true
  | .pick _ _ _ => true
  | .build _ _ => true
  | .load _ _ => true
  | .nilCheck _ => true
  | .binOp _ _ _ _ _ => true
  | .unOp _ _ _ => true
  | .convert _ _ _ => true
  | .makeFunc _ _ _ => true
  | .slice _ _ _ _ _ => true
  | .fieldAddr _ _ _ => true
  | .field _ _ _ => true
  | .indexAddr _ _ _ => true
  | .index _ _ _ => true
  | .lookup _ _ _ _ => true
  | .extract _ _ => true
  | .call c => match c.callee with
    | .builtin .len => true
    | .builtin .cap => true
    | .builtin .min => true
    | .builtin .max => true
    | _ => false
  | _ => false
/-- Those of a segment that are in a row: what does more than read, and what hangs on such. -/
def chs (B : List Nat) : List Oper → Nat → Nat → Nat
  | [], _, M => M
  | o :: r, j, M => chs B r (j + 1) (cond (readOp o) (cond (Nat.beq (Nat.land (B.getD j 0) M) 0) M (M ||| 2 ^ j)) (M ||| 2 ^ j))
def pairS (d cq cp : Bool) : Bool := cond cq (cond cp true (!d)) true
def colS (B : List Nat) (M m p : Nat) : Nat → Bool
  | 0 => true
  | q + 1 => cond (pairS (dep B (m + q) (m + p)) (M.testBit (m + q)) (M.testBit (m + p))) (colS B M m p q) false
def segOk (B : List Nat) (M m : Nat) : Nat → Bool
  | 0 => true
  | p + 1 => cond (colS B M m p p) (segOk B M m p) false
theorem colS_iff {B : List Nat} {M m p : Nat} : ∀ {n : Nat}, colS B M m p n = true → ∀ q, q < n → pairS (dep B (m + q) (m + p)) (M.testBit (m + q)) (M.testBit (m + p)) = true
  | 0, _, q, hq => by omega
  | n + 1, h, q, hq => by
    unfold colS at h
    cases hp : pairS (dep B (m + n) (m + p)) (M.testBit (m + n)) (M.testBit (m + p)) with
    | false => rw [hp] at h; cases h
    | true =>
      rw [hp] at h
      by_cases e : q = n
      · subst e; exact hp
      · exact colS_iff h q (by omega)
theorem segOk_iff {B : List Nat} {M m : Nat} : ∀ {n : Nat}, segOk B M m n = true → ∀ p q, p < n → q < p → pairS (dep B (m + q) (m + p)) (M.testBit (m + q)) (M.testBit (m + p)) = true
  | 0, _, p, q, hp, _ => by omega
  | n + 1, h, p, q, hp, hq => by
    unfold segOk at h
    cases hc : colS B M m n n with
    | false => rw [hc] at h; cases h
    | true =>
      rw [hc] at h
      by_cases e : p = n
      · subst e; exact colS_iff hc q hq
      · exact segOk_iff h p q (by omega) hq
/-- Might one of those that read still be ahead? -/
def needI (B : List Nat) (M p : Nat) : List Oper → Nat → Bool
  | [], _ => false
  | o :: r, q => cond (noMem o) (needI B M p r (q + 1)) (cond (M.testBit q) (needI B M p r (q + 1)) (cond (dep B q p) (needI B M p r (q + 1)) true))
theorem needI_iff {B : List Nat} {M p : Nat} : ∀ {s : List Oper} {q : Nat}, needI B M p s q = false → ∀ i o, s[i]? = some o → noMem o = false → M.testBit (q + i) = false → dep B (q + i) p = true
  | [], _, _, i, o, ho, _, _ => by simp at ho
  | x :: r, q, h, 0, o, ho, hp, hM => by
    simp only [List.getElem?_cons_zero, Option.some.injEq] at ho
    subst ho
    rw [needI, hp] at h
    simp only [Nat.add_zero] at hM ⊢
    rw [hM] at h
    cases hd : dep B q p with
    | true => rfl
    | false => rw [hd] at h; cases h
  | x :: r, q, h, i + 1, o, ho, hp, hM => by
    have ih : needI B M p r (q + 1) = false := by
      rw [needI] at h
      cases h1 : noMem x with
      | true => rw [h1] at h; exact h
      | false =>
        rw [h1] at h
        cases h2 : M.testBit q with
        | true => rw [h2] at h; exact h
        | false =>
          rw [h2] at h
          cases h3 : dep B q p with
          | true => rw [h3] at h; exact h
          | false => rw [h3] at h; cases h
    have := needI_iff ih i o (by simpa using ho) hp (by rwa [show q + 1 + i = q + (i + 1) from by omega])
    rwa [show q + 1 + i = q + (i + 1) from by omega] at this

def QtC (F : WP → WP) : WP := fun w => ∃ I : WP, I w ∧ F I w
def QE (I : WP) (A : (Value → WP) → WP) (B : Value → WP) : WP := fun w => ∃ v, (∀ w', I w' → A (fun v' w'' => v' = v ∧ w'' = w') w') ∧ B v w
def CH (I : WP) (K : WP) : WP := fun w => I w ∧ K w
def Drw (A : WP) : WP := fun w => A { w with drawn := w.drawn + 1 }
def AllE (A : WP) : WP := fun w => ∀ _ : Env, A w
def QRun (P : Program) (I : WP) (o : Oper) (ρ : Env) (v : Value) : Prop := ∀ w, (noMem o = false → I w) → OpV P o ρ (fun s w' => s.v = v ∧ w' = w) w
def QOp (P : Program) (I : WP) (o : Oper) (ρ : Env) (B : SV → WP) : WP := match o.op with
  | .move x => B (evS ρ x)
  | .assign x => B (evS ρ x)
  | .load _ _ => QE I (fun KK => OpV P o ρ fun s => KK s.v) fun v => B (dy v)
  | .lookup _ _ _ _ => QE I (fun KK => OpV P o ρ fun s => KK s.v) fun v => B (dy v)
  | .call _ => QE I (fun KK => OpV P o ρ fun s => KK s.v) fun v => B (dy v)
  | _ => QE (condW (noMem o) (fun _ => True) I) (fun KK => OpV P o ρ fun s => KK s.v) fun v => B (dy v)
theorem QOp.out {P : Program} {I : WP} {o : Oper} {ρ : Env} {B : SV → WP} {w : World} (hG : Gd ρ) (h : QOp P I o ρ B w) : ∃ s, s.Good ∧ QRun P I o ρ s.v ∧ B s w := by
  obtain ⟨dst, op, ty, pos, after, guard⟩ := o
  cases op <;> first
    | exact ⟨_, good_evS hG _, fun w _ => ⟨rfl, rfl⟩, h⟩
    | (obtain ⟨v, h3, h4⟩ := h
       exact ⟨dy v, trivial, fun w hw => h3 w (hw rfl), h4⟩)
    | (obtain ⟨v, h3, h4⟩ := h
       exact ⟨dy v, trivial, fun w _ => h3 w trivial, h4⟩)

/-! ### What is read ahead of being written; places where ways meet -/
def notIn (d : List Nat) (l : List Nat) : List Nat := match l with
  | [] => []
  | x :: r => cond (hasN d x) (notIn d r) (x :: notIn d r)
def ueOps (all : List Oper) : List Oper → List Nat → List Nat
  | [], _ => []
  | o :: r, d => notIn d (readsOf o ++ (match o.guard with | some (j, _) => (dstAt all j).toList | none => [])) ++ ueOps all r (o.dst.toList ++ d)
def dedup : List Nat → List Nat
  | [] => []
  | x :: r => cond (hasN r x) (dedup r) (x :: dedup r)
def both (l m : List Nat) : List Nat := match l with
  | [] => []
  | x :: r => cond (hasN m x) (x :: both r m) (both r m)
def liveL (md lv : List Nat) : List Nat := both (dedup md) lv
def vals (ρ : Env) (l : List Nat) : List Value := l.map fun t => (ρ t).v
def UN (vs : List Value) (K : Value → List Value → WP) : WP := fun w => match vs with | v :: r => K v r w | [] => False
def unp : List Nat → List Value → Env → (Env → WP) → WP
  | [], _, ρ, B => B ρ
  | i :: r, vs, ρ, B => UN vs fun v vs' => unp r vs' (ρ.upd i (dy v)) B
def unpX : List Nat → List Value → Env → (Env → WP) → WP
  | [], vs, ρ, B => fun w => match vs with | [] => B ρ w | _ => False
  | i :: r, vs, ρ, B => UN vs fun v vs' => unpX r vs' (ρ.upd i (dy v)) B
def UNe (vs : List Value) (A : WP) : WP := fun w => match vs with | [] => A w | _ => False
def mix (md : List Nat) (j ρ : Env) : Env := fun i => cond (hasN md i) (j i) (ρ i)
def LoopC (init : List Value) (body : (List Value → WP) → List Value → WP) : WP := fun w =>
  ∃ (I : List Value → WP) (μ : List Value → World → Nat), I init w ∧ ∀ vs w, I vs w → body (fun vs' w' => I vs' w' ∧ μ vs' w' < μ vs w) vs w
def JoinC (b : List Value → WP) (a : (List Value → WP) → WP) : WP := fun w => ∀ K : List Value → WP, (∀ vs w', b vs w' → K vs w') → a K w

/-- First those that read. -/
def WRd (P : Program) (all : List Oper) (M : Nat) (I : WP) : List Oper → Nat → Env → (Env → WP) → WP
  | [], _, ρ, C => C ρ
  | o :: r, p, ρ, C => condW (M.testBit p) (WRd P all M I r (p + 1) ρ C) (match o.guard with
    | none => QOp P I o ρ fun v => WRd P all M I r (p + 1) (ρ.put o.dst v) C
    | some (j, b) => match dstAt all j with
      | some g => GrdW (ρ g) b (QOp P I o (ρ.upd g (sb b)) fun v => WRd P all M I r (p + 1) ((ρ.upd g (sb b)).put o.dst v) C) (WRd P all M I r (p + 1) ((ρ.upd g (sb (!b))).put o.dst su) C) (WRd P all M I r (p + 1) (ρ.put o.dst su) C)
      | none => fun _ => False)
def And2 (A B : WP) : WP := fun w => A w ∧ B w
def allW : List WP → WP
  | [] => fun _ => True
  | [A] => A
  | A :: B :: r => And2 A (allW (B :: r))
theorem allW_mem : ∀ {l : List WP} {w : World}, allW l w → ∀ A ∈ l, A w
  | [], _, _, A, h => by cases h
  | [B], w, h, A, hm => by rw [List.mem_singleton.1 hm]; exact h
  | B :: C :: r, w, h, A, hm => by
    rcases List.mem_cons.1 hm with e | hm
    · rw [e]; exact h.1
    · exact allW_mem (l := C :: r) h.2 A hm
/-- Those of the others that are ahead. -/
def chL (M : Nat) : List Oper → Nat → List (Nat × Oper)
  | [], _ => []
  | o :: r, p => cond (M.testBit p) ((p, o) :: chL M r (p + 1)) (chL M r (p + 1))
def frontB (B : List Nat) (p : Nat) : List (Nat × Oper) → Bool
  | [] => true
  | x :: r => cond (Nat.beq x.1 p) (frontB B p r) (cond (dep B x.1 p) false (frontB B p r))
def dropU (p : Nat) : List (Nat × Oper) → List (Nat × Oper)
  | [] => []
  | x :: r => cond (Nat.beq x.1 p) (dropU p r) (x :: dropU p r)
def fronts (B : List Nat) (U : List (Nat × Oper)) : List (Nat × Oper) → List (Nat × Oper)
  | [] => []
  | x :: r => cond (frontB B x.1 U) (x :: fronts B U r) (fronts B U r)
/-- Then the others: any that may be next. -/
def WCh (P : Program) (all : List Oper) (B : List Nat) (M : Nat) (I : WP) (s : List Oper) (m : Nat) : Nat → List (Nat × Oper) → Env → (Env → WP) → WP
  | 0, U, ρ, C => match U with | [] => C ρ | _ => fun _ => False
  | n + 1, U, ρ, C => match U with
    | [] => C ρ
    | _ => allW ((fronts B U U).map fun x => WOps P all [x.2] ρ fun ρ' => condW (needI B M x.1 s m) (CH I (WCh P all B M I s m n (dropU x.1 U) ρ' C)) (WCh P all B M I s m n (dropU x.1 U) ρ' C))
/-- All in a row. -/
def rowB (B : List Nat) : List (Nat × Oper) → Bool
  | [] => true
  | x :: r => cond (allB (fun y => dep B x.1 y.1) r) (rowB B r) false
def WSeg (P : Program) (all : List Oper) (B : List Nat) (A : List Nat) (s : List Oper) (m M : Nat) (ρ : Env) (C : Env → WP) : WP :=
  cond (segOk B M m s.length) (cond (rowB B (chL M s m))
      (QtC fun I => WRd P all M I s m ρ fun ρ' => WCh P all B M I s m (chL M s m).length (chL M s m) ρ' C)
      (JoinC (fun vs w => ∀ j : Env, unp (liveL (dsts s) A) vs (mix (dsts s) j ρ) C w)
        fun K => QtC fun I => WRd P all M I s m ρ fun ρ' => WCh P all B M I s m (chL M s m).length (chL M s m) ρ' fun ρ'' => K (vals ρ'' (liveL (dsts s) A))))
    (fun _ => False)
def WDr (P : Program) (all : List Oper) (B : List Nat) (A : List Nat) : List (List Oper) → Nat → Env → (Env → WP) → WP
  | [], _, ρ, K => K ρ
  | [o] :: r, m, ρ, K => WOps P all [o] ρ fun ρ' => WDr P all B A r (m + 1) ρ' K
  | s :: r, m, ρ, K => WSeg P all B (ueOps all r.flatten [] ++ A) s m (chs B s m 0) ρ fun ρ' => WDr P all B A r (m + s.length) ρ' K

/-! ### The facts that such a walk leaves -/
def QAt (P : Program) (I : WP) (o : Oper) (E : VEnv) (v : Value) : Prop := ∃ ρ : Env, ρ.val = E ∧ Gd ρ ∧ QRun P I o ρ v
def QStep (P : Program) (all : List Oper) (I : WP) (o : Oper) (E : VEnv) (v : Value) : Prop := match o.guard with
  | none => QAt P I o E v
  | some (j, b) => ∃ g, dstAt all j = some g ∧ ((E g = .bool b ∧ QAt P I o E v) ∨ (E g ≠ .bool b ∧ v = undef))
def QF (P : Program) (all : List Oper) (M : Nat) (I : WP) : Nat → List Oper → List Value → VEnv → VEnv → Prop
  | _, [], [], ρ, ρe => ρe = ρ
  | p, o :: r, v :: vs, ρ, ρe => (M.testBit p = false → QStep P all I o ρ v) ∧ QF P all M I (p + 1) r vs (cond (M.testBit p) ρ (ρ.put o.dst v)) ρe
  | _, _, _, _, _ => False
theorem wr_facts {P : Program} {all : List Oper} {M : Nat} {I : WP} {w : World} : ∀ (r : List Oper) (p : Nat) (ρ : Env) (C : Env → WP), Gd ρ → WRd P all M I r p ρ C w → ∃ vs ρe, Gd ρe ∧ QF P all M I p r vs ρ.val ρe.val ∧ C ρe w
  | [], _, ρ, C, hG, h => ⟨[], ρ, hG, rfl, h⟩
  | o :: r, p, ρ, C, hG, h => by
    unfold WRd at h
    cases hM : M.testBit p with
    | true =>
      rw [hM] at h
      obtain ⟨vs, ρe, hGe, hq, hc⟩ := wr_facts r (p + 1) ρ C hG h
      exact ⟨undef :: vs, ρe, hGe, ⟨fun e => absurd (hM.symm.trans e) (by simp), by rw [hM]; exact hq⟩, hc⟩
    | false =>
      rw [hM] at h
      simp only [condW_false] at h
      cases hg : o.guard with
      | none =>
        rw [hg] at h
        obtain ⟨s, hs, hv, h⟩ := QOp.out hG h
        obtain ⟨vs, ρe, hGe, hq, hc⟩ := wr_facts r (p + 1) _ C (hG.put _ hs) h
        rw [Env.val_put] at hq
        exact ⟨s.v :: vs, ρe, hGe, ⟨fun _ => by unfold QStep; rw [hg]; exact ⟨ρ, rfl, hG, hv⟩, by rw [hM]; exact hq⟩, hc⟩
      | some jb =>
        obtain ⟨j, b⟩ := jb
        rw [hg] at h
        dsimp only at h
        cases hd : dstAt all j with
        | none => rw [hd] at h; exact h.elim
        | some g =>
          rw [hd] at h
          dsimp only at h
          rcases GrdW_cases (hG g) h with ⟨hx, h⟩ | ⟨hx, h⟩ | ⟨hx, h⟩
          · have hv1 : (ρ.upd g (sb b)).val = ρ.val := Env.val_know (by rw [sb_v]; exact hx)
            obtain ⟨s, hs, hv, h⟩ := QOp.out (hG.upd g (good_sb b)) h
            obtain ⟨vs, ρe, hGe, hq, hc⟩ := wr_facts r (p + 1) _ C ((hG.upd g (good_sb b)).put _ hs) h
            rw [Env.val_put, hv1] at hq
            exact ⟨s.v :: vs, ρe, hGe, ⟨fun _ => by unfold QStep; rw [hg]; exact ⟨g, hd, .inl ⟨hx, _, hv1, hG.upd g (good_sb b), hv⟩⟩, by rw [hM]; exact hq⟩, hc⟩
          · have hv1 : (ρ.upd g (sb (!b))).val = ρ.val := Env.val_know (by rw [sb_v]; exact hx)
            obtain ⟨vs, ρe, hGe, hq, hc⟩ := wr_facts r (p + 1) _ C ((hG.upd g (good_sb _)).put _ good_su) h
            rw [Env.val_put, hv1] at hq
            exact ⟨undef :: vs, ρe, hGe, ⟨fun _ => by unfold QStep; rw [hg]; exact ⟨g, hd, .inr ⟨by rw [show ρ.val g = _ from hx]; cases b <;> simp, rfl⟩⟩, by rw [hM]; exact hq⟩, hc⟩
          · obtain ⟨vs, ρe, hGe, hq, hc⟩ := wr_facts r (p + 1) _ C (hG.put _ good_su) h
            rw [Env.val_put] at hq
            exact ⟨undef :: vs, ρe, hGe, ⟨fun _ => by unfold QStep; rw [hg]; exact ⟨g, hd, .inr ⟨hx b, rfl⟩⟩, by rw [hM]; exact hq⟩, hc⟩
theorem QF_len {P : Program} {all : List Oper} {M : Nat} {I : WP} : ∀ (s : List Oper) (vs : List Value) (ρ ρe : VEnv) (p : Nat), QF P all M I p s vs ρ ρe → vs.length = s.length
  | [], [], _, _, _, _ => rfl
  | [], _ :: _, _, _, _, h => h.elim
  | _ :: _, [], _, _, _, h => h.elim
  | _ :: r, _ :: vs, _, _, _, h => by simp [QF_len r vs _ _ _ h.2]

/-- The environment behind those operations of a segment that T says. -/
def ET : List Oper → List Value → (Nat → Bool) → VEnv → VEnv
  | o :: r, v :: vs, T, ρ => ET r vs (fun q => T (q + 1)) (cond (T 0) (ρ.put o.dst v) ρ)
  | _, _, _, ρ => ρ
theorem ET_none : ∀ (s : List Oper) (vs : List Value) (T : Nat → Bool) (ρ : VEnv) (t : Nat), (∀ q o, s[q]? = some o → o.dst = some t → T q = false) → ET s vs T ρ t = ρ t
  | [], _, _, _, _, _ => rfl
  | _ :: _, [], _, _, _, _ => rfl
  | o :: r, v :: vs, T, ρ, t, h => by
    rw [ET, ET_none r vs _ _ t fun q o' ho hd => h (q + 1) o' (by simpa using ho) hd]
    cases h0 : T 0 with
    | false => rfl
    | true =>
      refine VEnv.put_keep fun x hx e => ?_
      have := h 0 o rfl (by rw [hx, e])
      rw [h0] at this; cases this
theorem ET_congr : ∀ (s : List Oper) (vs vs' : List Value) (T T' : Nat → Bool) (ρ ρ' : VEnv) (t : Nat), vs.length = vs'.length → (∀ q o, s[q]? = some o → o.dst = some t → T q = T' q ∧ (T q = true → vs[q]? = vs'[q]?)) → ρ t = ρ' t → ET s vs T ρ t = ET s vs' T' ρ' t
  | [], _, _, _, _, _, _, _, _, _, h => h
  | _ :: _, [], [], _, _, _, _, _, _, _, h => h
  | _ :: _, [], _ :: _, _, _, _, _, _, hl, _, _ => by simp at hl
  | _ :: _, _ :: _, [], _, _, _, _, _, hl, _, _ => by simp at hl
  | o :: r, v :: vs, v' :: vs', T, T', ρ, ρ', t, hl, h, he => by
    rw [ET, ET]
    refine ET_congr r vs vs' _ _ _ _ t (by simpa using hl) (fun q o' ho hd => ?_) ?_
    · have := h (q + 1) o' (by simpa using ho) hd
      simpa using this
    cases hd : o.dst with
    | none => cases T 0 <;> cases T' 0 <;> simp [VEnv.put, he]
    | some x =>
      by_cases e : t = x
      · subst e
        obtain ⟨h1, h2⟩ := h 0 o rfl hd
        rw [← h1]
        cases h0 : T 0 with
        | false => simp [he]
        | true =>
          have := h2 h0
          simp only [List.getElem?_cons_zero, Option.some.injEq] at this
          simp [VEnv.put, VEnv.upd_same, this]
      · cases T 0 <;> cases T' 0 <;> simp [VEnv.put, he, VEnv.upd_ne _ _ e]
theorem ET_at : ∀ (s : List Oper) (vs : List Value) (T : Nat → Bool) (ρ : VEnv) (p : Nat) (o : Oper) (v : Value) (t : Nat), s[p]? = some o → vs[p]? = some v → o.dst = some t → T p = true →
    (∀ q o', s[q]? = some o' → o'.dst = some t → p < q → T q = false) → ET s vs T ρ t = v
  | [], _, _, _, _, _, _, _, h, _, _, _, _ => by simp at h
  | _ :: _, [], _, _, _, _, _, _, _, h, _, _, _ => by simp at h
  | o :: r, v :: vs, T, ρ, 0, o', v', t, ho, hv, hd, hT, h => by
    simp only [List.getElem?_cons_zero, Option.some.injEq] at ho hv
    subst ho; subst hv
    rw [ET, ET_none r vs _ _ t fun q o' ho hd' => h (q + 1) o' (by simpa using ho) hd' (by omega), hT]
    simp [VEnv.put, hd, VEnv.upd_same]
  | o :: r, v :: vs, T, ρ, p + 1, o', v', t, ho, hv, hd, hT, h => by
    rw [ET]
    exact ET_at r vs _ _ p o' v' t (by simpa using ho) (by simpa using hv) hd hT fun q o'' ho'' hd'' hlt => h (q + 1) o'' (by simpa using ho'') hd'' (by omega)
theorem ET_mask : ∀ (s : List Oper) (vs : List Value) (T T' : Nat → Bool) (ρ : VEnv), (∀ q, q < s.length → T q = T' q) → ET s vs T ρ = ET s vs T' ρ
  | [], _, _, _, _, _ => rfl
  | _ :: _, [], _, _, _, _ => rfl
  | o :: r, v :: vs, T, T', ρ, h => by
    rw [ET, ET, h 0 (by simp)]
    exact ET_mask r vs _ _ _ fun q hq => h (q + 1) (by simp; omega)
/-- The environment behind the reading. -/
theorem QF_env {P : Program} {all : List Oper} {M : Nat} {I : WP} : ∀ (s : List Oper) (vs : List Value) (ρ ρe : VEnv) (p : Nat), QF P all M I p s vs ρ ρe → ρe = ET s vs (fun q => !M.testBit (p + q)) ρ
  | [], [], _, _, _, h => h
  | [], _ :: _, _, _, _, h => h.elim
  | _ :: _, [], _, _, _, h => h.elim
  | o :: r, v :: vs, ρ, ρe, p, h => by
    have := QF_env r vs _ ρe (p + 1) h.2
    rw [this, ET]
    have e1 : (cond (M.testBit p) ρ (ρ.put o.dst v)) = (cond (!M.testBit (p + 0)) (ρ.put o.dst v) ρ) := by rw [Nat.add_zero]; cases M.testBit p <;> rfl
    rw [e1]
    have e2 : (fun q => !M.testBit (p + 1 + q)) = fun q => !M.testBit (p + (q + 1)) := by funext q; rw [show p + 1 + q = p + (q + 1) from by omega]
    rw [e2]
/-- What is known of the operation at p, told of the environment behind those ahead of it that read. -/
theorem QF_at {P : Program} {all : List Oper} {M : Nat} {I : WP} : ∀ (s : List Oper) (vs : List Value) (ρ ρe : VEnv) (k : Nat), QF P all M I k s vs ρ ρe → ∀ p o, s[p]? = some o → M.testBit (k + p) = false →
    ∃ v, vs[p]? = some v ∧ QStep P all I o (ET s vs (fun q => decide (q < p) && !M.testBit (k + q)) ρ) v
  | [], _, _, _, _, _, p, o, ho, _ => by simp at ho
  | _ :: _, [], _, _, _, h, _, _, _, _ => h.elim
  | o :: r, v :: vs, ρ, ρe, k, h, 0, o', ho, hM => by
    simp only [List.getElem?_cons_zero, Option.some.injEq] at ho
    subst ho
    refine ⟨v, rfl, ?_⟩
    have : ET (o :: r) (v :: vs) (fun q => decide (q < 0) && !M.testBit (k + q)) ρ = ρ := by
      funext t; exact ET_none _ _ _ _ _ fun q o' _ _ => by simp
    rw [this]; exact h.1 (by simpa using hM)
  | o :: r, v :: vs, ρ, ρe, k, h, p + 1, o', ho, hM => by
    obtain ⟨v', hv', hq⟩ := QF_at r vs _ ρe (k + 1) h.2 p o' (by simpa using ho) (by rwa [show k + 1 + p = k + (p + 1) from by omega])
    refine ⟨v', by simpa using hv', ?_⟩
    rw [ET]
    have : (cond (decide (0 < p + 1) && !M.testBit (k + 0)) (ρ.put o.dst v) ρ) = cond (M.testBit k) ρ (ρ.put o.dst v) := by rw [Nat.add_zero]; cases M.testBit k <;> simp
    rw [this]
    have e : (fun q => decide (q + 1 < p + 1) && !M.testBit (k + (q + 1))) = fun q => decide (q < p) && !M.testBit (k + 1 + q) := by funext q; rw [show k + 1 + q = k + (q + 1) from by omega]; simp
    rw [e]; exact hq
end Go.Jac
