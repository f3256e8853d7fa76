/- Operations in a row, and in any order, are right. -/
import Derived.Test.YtcdkbkgpgemfgaaGreatDoorKj
set_option maxRecDepth 100000
namespace Go.Jac
open Go

theorem beq0_eq : ∀ {x y : X}, beq0 x y = true → x = y := by
  intro x y h
  unfold beq0 at h
  split at h
  · rename_i k a k' b
    cases hk : decide (k = k') with
    | false => rw [hk] at h; cases h
    | true => rw [hk] at h; rw [of_decide_eq_true hk, of_decide_eq_true h]
  · rw [of_decide_eq_true h]
  · rfl
  · rename_i a b c d
    cases hk : Nat.beq a c with
    | false => rw [hk] at h; cases h
    | true => rw [hk] at h; rw [beq_eq hk, beq_eq h]
  · rfl
  · rename_i a b c d
    cases hk : Nat.beq a c with
    | false => rw [hk] at h; cases h
    | true => rw [hk] at h; rw [beq_eq hk, beq_eq h]
  · rename_i a b c d
    cases hk : Nat.beq a c with
    | false => rw [hk] at h; cases h
    | true => rw [hk] at h; rw [beq_eq hk, beq_eq h]
  · rename_i a b c d a' b' c' d'
    cases h1 : Nat.beq a a' <;> rw [h1] at h <;> (try cases h)
    cases h2 : Nat.beq b b' <;> rw [h2] at h <;> (try cases h)
    cases h3 : Nat.beq c c' <;> rw [h3] at h <;> (try cases h)
    rw [beq_eq h1, beq_eq h2, beq_eq h3, beq_eq h]
  · rename_i a b c d a' b' c' d'
    cases h1 : Nat.beq a a' <;> rw [h1] at h <;> (try cases h)
    cases h2 : Nat.beq b b' <;> rw [h2] at h <;> (try cases h)
    cases h3 : Nat.beq c c' <;> rw [h3] at h <;> (try cases h)
    rw [beq_eq h1, beq_eq h2, beq_eq h3, beq_eq h]
  · rename_i a b c d a' b' c' d'
    cases h1 : Nat.beq a a' <;> rw [h1] at h <;> (try cases h)
    cases h2 : Nat.beq b b' <;> rw [h2] at h <;> (try cases h)
    cases h3 : Nat.beq c c' <;> rw [h3] at h <;> (try cases h)
    rw [beq_eq h1, beq_eq h2, beq_eq h3, beq_eq h]
  · rw [beq_eq h]
  · rename_i a b c d
    cases hk : Nat.beq a c with
    | false => rw [hk] at h; cases h
    | true => rw [hk] at h; rw [beq_eq hk, beq_eq h]
  · cases h
theorem beqL0_eq : ∀ {xs ys : List X}, beqL0 xs ys = true → xs = ys
  | [], [], _ => rfl
  | [], _ :: _, h => by cases h
  | _ :: _, [], h => by cases h
  | x :: r, y :: s, h => by
    unfold beqL0 at h
    cases h1 : beq0 x y with
    | false => rw [h1] at h; cases h
    | true => rw [h1] at h; rw [beq0_eq h1, beqL0_eq (show beqL0 r s = true from h)]
theorem beqX_eq {x y : X} (h : beqX x y = true) : x = y := by
  unfold beqX at h
  split at h
  · rw [beqL0_eq h]
  · exact beq0_eq h
theorem beqL_eq : ∀ {xs ys : List X}, beqL xs ys = true → xs = ys
  | [], [], _ => rfl
  | [], _ :: _, h => by cases h
  | _ :: _, [], h => by cases h
  | x :: r, y :: s, h => by
    unfold beqL at h
    cases h1 : beqX x y with
    | false => rw [h1] at h; cases h
    | true => rw [h1] at h; rw [beqX_eq h1, beqL_eq (show beqL r s = true from h)]
theorem beqM_eq : ∀ {xs ys : List (Int × X)}, beqM xs ys = true → xs = ys
  | [], [], _ => rfl
  | [], _ :: _, h => by cases h
  | _ :: _, [], h => by cases h
  | (k, x) :: r, (k', y) :: s, h => by
    unfold beqM at h
    cases h0 : decide (k = k') with
    | false => rw [h0] at h; cases h
    | true =>
      rw [h0] at h
      cases h1 : beqX x y with
      | false => rw [h1] at h; cases h
      | true => rw [h1] at h; rw [of_decide_eq_true h0, beqX_eq h1, beqM_eq (show beqM r s = true from h)]
theorem beqB_eq {x y : XB} (h : beqB x y = true) : x = y := by
  unfold beqB at h
  split at h
  · rename_i t op cs t' op' cs'
    cases h1 : Nat.beq t t' with
    | false => rw [h1] at h; cases h
    | true =>
      rw [h1] at h
      cases h2 : decide (op = op') with
      | false => rw [h2] at h; cases h
      | true => rw [h2] at h; rw [beq_eq h1, of_decide_eq_true h2, beqL_eq h]
  · rw [beqM_eq h]
  · cases h
section
variable {AT : Nat → Nat → Value} {P : Program} {GL : Gv} {w0 : World} {F : List HP} {cl : Bool → Nat → List X → XS → R (X × XS)}
theorem keeps_ok {σ : Sg} {w : World} : ∀ {kp bs : List (Nat × XB)}, keeps bs kp = true → D w0 (bs.map (partB AT P σ) ++ F) w → D w0 (kp.map (partB AT P σ) ++ F) w := by
  have key : ∀ (kp bs : List (Nat × XB)) (h : Hp), keeps bs kp = true → Sat (bs.map (partB AT P σ) ++ F) h → Sat (kp.map (partB AT P σ) ++ F) h := by
    intro kp
    induction kp with
    | nil =>
      intro bs h _ s
      induction bs generalizing h with
      | nil => exact s
      | cons p r ih => exact ih _ rfl s.tail
    | cons p r ih =>
      obtain ⟨b, x⟩ := p
      intro bs h hk s
      unfold keeps at hk
      cases hf : findB bs b with
      | none => rw [hf] at hk; cases hk
      | some y =>
        rw [hf] at hk
        dsimp only at hk
        cases hb : beqB x y with
        | false => rw [hb] at hk; cases hk
        | true =>
          rw [hb] at hk
          have e := beqB_eq hb
          subst e
          obtain ⟨L1, L2, rfl, h2, h3⟩ := find_split hf
          rw [List.map_append, List.map_cons, List.append_assoc, List.cons_append] at s
          have s := s.perm List.perm_middle
          refine s.under fun h' s' => ih _ h' hk ?_
          rw [h3, List.map_append, List.append_assoc]
          exact s'
  intro kp bs hk d
  exact ⟨key _ _ _ hk d.1, d.2⟩
theorem grd_w {x : SV} {b c : Bool} {A B C : WP} {w : World} (hv : x.v = .bool c) (hg : x.Good) (h1 : c = b → A w) (h2 : c = (!b) → B w) : GrdW x b A B C w := by
  obtain ⟨kn, v⟩ := x
  change v = .bool c at hv
  subst hv
  unfold GrdW
  cases kn with
  | tt =>
    have this : Value.bool c = .bool true := hg
    cases this
    cases b with
    | true => exact h1 rfl
    | false => exact h2 rfl
  | ff =>
    have this : Value.bool c = .bool false := hg
    cases this
    cases b with
    | true => exact h2 rfl
    | false => exact h1 rfl
  | un => exact absurd rfl (hg c)
  | unk => exact ⟨c, rfl, h1, h2⟩
theorem grd_su {b : Bool} {A B C : WP} {w : World} (h : C w) : GrdW su b A B C w := h
theorem ops_ok (hAT : ∀ i c, (AT i c).oneCell' = true) (hG : GLok AT GL w0 F) (hH : HOk AT P w0 F cl) {all : List Oper} {E' : XE} {S' : XS} : ∀ (r : List Oper) (E : XE) (ρ : Env) (σ : Sg) (S : XS) (w : World), EnvR AT σ E ρ → Rep AT P w0 F σ S w → xOps P GL cl all r E S = .ok (E', S') →
    ∀ K : Env → WP, (∀ σ' ρ' w', σ.le σ' → Rep AT P w0 F σ' S' w' → EnvR AT σ' E' ρ' → K ρ' w') → WOps P all r ρ K w
  | [], E, ρ, σ, S, w, he, r, h, K, k => by cases h; exact k σ ρ w (Sg.le.refl σ) r he
  | o :: l, E, ρ, σ, S, w, he, r, h, K, k => by
    have step : ∀ ρ1, EnvR AT σ E ρ1 → ((xOp P GL cl o E S).bind fun p => force2 p.1 fun x => xOps P GL cl all l (putX E o.dst x) p.2) = .ok (E', S') → OpV P o ρ1 (fun v => WOps P all l (ρ1.put o.dst v) K) w := by
      intro ρ1 he1 h
      obtain ⟨⟨x, S1⟩, h1, h2⟩ := R.bind_ok h
      rw [force2_eq] at h2
      exact op_ok hAT hG hH he1 r h1 fun σ' s w' hl hr hx => ops_ok hAT hG hH l _ _ σ' S1 w' ((he1.mono hl).put o.dst hx) hr h2 K fun σ'' ρ'' w'' hl' => k σ'' ρ'' w'' (hl.trans hl')
    have skip : ∀ ρ1, EnvR AT σ E ρ1 → xOps P GL cl all l (putX E o.dst .no) S = .ok (E', S') → WOps P all l (ρ1.put o.dst su) K w := fun ρ1 he1 h =>
      ops_ok hAT hG hH l _ _ σ S w (he1.put o.dst (show RelX AT σ .no su from rfl)) r h K k
    unfold xOps at h
    unfold WOps
    split at h
    · rename_i hg
      rw [hg]
      exact step ρ he h
    · rename_i j b hg
      rw [hg]
      dsimp only
      split at h
      · rename_i g hd
        rw [hd]
        dsimp only
        split at h
        · rename_i c hc
          have hrel := he g
          rw [hc] at hrel
          obtain ⟨v, v1, v2, v3⟩ := hrel
          cases den_bool.1 v1
          refine grd_w v2 v3 (fun e => ?_) (fun e => ?_)
          · subst e
            simp only [beq_self_eq_true, cond_true] at h
            exact step _ (he.know hc) h
          · subst e
            have : ((!b) == b) = false := by cases b <;> rfl
            rw [this] at h
            exact skip _ (he.know hc) h
        · rename_i hc
          have hrel := he g
          rw [hc] at hrel
          have hrel : ρ g = su := hrel
          rw [hrel]
          exact grd_su (skip _ he h)
        · cases h
      · cases h
/-! ### Readers ahead -/
theorem QOp_eq {I : WP} {o : Oper} {ρ : Env} {B : SV → WP} (h : noMem o = false) : QOp P I o ρ B = QE I (fun KK => OpV P o ρ fun s => KK s.v) fun v => B (dy v) := by
  obtain ⟨dst, op, ty, pos, after, guard⟩ := o
  cases op <;> first | rfl | exact absurd (show true = false from h) (by simp)
theorem QOp_env {I : WP} {o : Oper} {ρ : Env} {B : SV → WP} (h : noMem o = true) (h1 : pureOp o = false) : QOp P I o ρ B = QE (fun _ => True) (fun KK => OpV P o ρ fun s => KK s.v) fun v => B (dy v) := by
  obtain ⟨dst, op, ty, pos, after, guard⟩ := o
  cases op <;> first | rfl | exact absurd (show true = false from h1) (by simp) | exact absurd (show false = true from h) (by simp)
def Gv.off (GL : Gv) : Gv := ⟨fun _ => none, GL.bin, GL.conv, GL.mm⟩
theorem read_off {o : Oper} {E : XE} {S : XS} (h : noMem o = true) : xRead P GL o E S = xRead P GL.off o E ⟨0, []⟩ := by
  obtain ⟨dst, op, ty, pos, after, guard⟩ := o
  cases op <;> first | rfl | exact absurd (show false = true from h) (by simp)
/-- What reads no memory is so at any time. -/
theorem read_env (hAT : ∀ i c, (AT i c).oneCell' = true) (hG : GLok AT GL w0 F) {σ : Sg} {o : Oper} {E : XE} {ρ : Env} {S : XS} {x : X} (hn : noMem o = true) (he : EnvR AT σ E ρ) (h : xRead P GL o E S = .ok x) {v : Value} (hv : den AT σ x = some v) (w : World) : OpV P o ρ (fun s w' => s.v = v ∧ w' = w) w := by
  rw [read_off hn] at h
  have hG' : GLok AT GL.off w [] := ⟨fun _ _ _ _ _ h => (by cases h), hG.bin, hG.conv, hG.mm⟩
  obtain ⟨v', u1, u2⟩ := read_ok (S := ⟨0, []⟩) hAT hG' he (⟨trivial, Kp.refl w⟩ : D w [] w) h
  rw [hv] at u1
  cases u1
  exact u2 _ fun s hs _ => ⟨hs, rfl⟩
/-- What holds while readers may still be ahead. -/
def KI (AT : Nat → Nat → Value) (P : Program) (w0 : World) (F : List HP) (σ : Sg) (bs : List (Nat × XB)) : WP := fun w => ∃ τ : Sg, σ.le τ ∧ D w0 (bs.map (partB AT P τ) ++ F) w
theorem rd_ok (hAT : ∀ i c, (AT i c).oneCell' = true) (hG : GLok AT GL w0 F) {all : List Oper} {M : Nat} {σ : Sg} {S : XS} {E' : XE} {w : World} (d : D w0 (S.bs.map (partB AT P σ) ++ F) w) {C : Env → WP} (k : ∀ ρ', EnvR AT σ E' ρ' → C ρ' w) :
    ∀ (r : List Oper) (p : Nat) (E : XE) (ρ : Env), EnvR AT σ E ρ → xRd P GL all M S r p E = .ok E' → WRd P all M (KI AT P w0 F σ S.bs) r p ρ C w
  | [], p, E, ρ, he, h => by cases h; exact k ρ he
  | o :: l, p, E, ρ, he, h => by
    have step : ∀ ρ1, EnvR AT σ E ρ1 → ((cond (pureOp o) ((xOp P GL (fun _ _ _ _ => .no 0) o E S).bind fun p => .ok p.1) (xRead P GL o E S)).bind fun x => force2 x fun x => xRd P GL all M S l (p + 1) (putX E o.dst x)) = .ok E' →
        QOp P (KI AT P w0 F σ S.bs) o ρ1 (fun v => WRd P all M (KI AT P w0 F σ S.bs) l (p + 1) (ρ1.put o.dst v) C) w := by
      intro ρ1 he1 h
      obtain ⟨x, h1, h2⟩ := R.bind_ok h
      rw [force2_eq] at h2
      cases hp : pureOp o with
      | true =>
        rw [hp] at h1
        simp only [cond_true] at h1
        obtain ⟨⟨x', S1⟩, h3, h4⟩ := R.bind_ok h1
        cases h4
        obtain ⟨dst, op, ty, pos, after, guard⟩ := o
        have fin : ∀ y : Operand, x' = opX E y → WRd P all M (KI AT P w0 F σ S.bs) l (p + 1) (ρ1.put dst (evS ρ1 y)) C w := fun y e => by
          subst e
          exact rd_ok hAT hG d k l (p + 1) _ _ (he1.put dst (op_rel he1 y)) h2
        cases op <;> first | cases hp | skip
        · cases h3; exact fin _ rfl
        · cases h3; exact fin _ rfl
      | false =>
        rw [hp] at h1
        simp only [cond_false] at h1
        obtain ⟨v, v1, v2⟩ := read_ok hAT hG he1 d h1
        cases hn : noMem o with
        | true =>
          rw [QOp_env hn hp]
          exact ⟨v, fun w' _ => read_env hAT hG hn he1 h1 v1 w', rd_ok hAT hG d k l (p + 1) _ _ (he1.put o.dst (.dy v1)) h2⟩
        | false =>
          rw [QOp_eq hn]
          refine ⟨v, ?_, rd_ok hAT hG d k l (p + 1) _ _ (he1.put o.dst (.dy v1)) h2⟩
          rintro w' ⟨τ, hτ, d'⟩
          obtain ⟨v', u1, u2⟩ := read_ok hAT hG (he1.mono hτ) d' h1
          rw [den_mono hτ v1] at u1
          cases u1
          exact u2 _ fun s hs _ => ⟨hs, rfl⟩
    have skip : ∀ ρ1, EnvR AT σ E ρ1 → xRd P GL all M S l (p + 1) (putX E o.dst .no) = .ok E' → WRd P all M (KI AT P w0 F σ S.bs) l (p + 1) (ρ1.put o.dst su) C w := fun ρ1 he1 h =>
      rd_ok hAT hG d k l (p + 1) _ _ (he1.put o.dst (show RelX AT σ .no su from rfl)) h
    unfold xRd at h
    unfold WRd
    cases hM : M.testBit p with
    | true =>
      rw [hM] at h
      rw [condW_true]
      exact rd_ok hAT hG d k l (p + 1) E ρ he h
    | false =>
      rw [hM] at h
      rw [condW_false]
      simp only [cond_false] at h
      split at h
      · rename_i hg
        rw [hg]
        exact step ρ he h
      · rename_i j b hg
        rw [hg]
        dsimp only
        split at h
        · rename_i g hd
          rw [hd]
          dsimp only
          split at h
          · rename_i c hc
            have hrel := he g
            rw [hc] at hrel
            obtain ⟨v, v1, v2, v3⟩ := hrel
            cases den_bool.1 v1
            refine grd_w v2 v3 (fun e => ?_) (fun e => ?_)
            · subst e
              simp only [beq_self_eq_true, cond_true] at h
              exact step _ (he.know hc) h
            · subst e
              have : ((!b) == b) = false := by cases b <;> rfl
              rw [this] at h
              exact skip _ (he.know hc) h
          · rename_i hc
            have hrel := he g
            rw [hc] at hrel
            have hrel : ρ g = su := hrel
            rw [hrel]
            exact grd_su (skip _ he h)
          · cases h
        · cases h
end
end Go.Jac
