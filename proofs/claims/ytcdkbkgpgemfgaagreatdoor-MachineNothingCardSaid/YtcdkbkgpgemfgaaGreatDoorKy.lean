/- A state told anew: blocks bear other names, unknown numbers too; what is not reached is left. -/
import Derived.Test.YtcdkbkgpgemfgaaGreatDoorKx
set_option maxRecDepth 100000
namespace Go.Jac
open Go
abbrev RB := List (Nat × Nat)
abbrev RS := List (Nat × Nat × X)
def lkB : RB → Nat → Option Nat
  | [], _ => none
  | (a, b) :: r, n => cond (Nat.beq a n) (some b) (lkB r n)
def lkS : RS → Nat → Nat → Option X
  | [], _, _ => none
  | (i, c, y) :: r, j, e => cond (Nat.beq i j) (cond (Nat.beq c e) (some y) (lkS r j e)) (lkS r j e)
def isB (ρ : RB) (a b : Nat) : Bool := match lkB ρ a with | some c => Nat.beq c b | none => false
/-- It names no block and no unknown number. -/
def freeX : X → Bool
  | .int _ _ => true
  | .bool _ => true
  | .lit _ => true
  | .gp _ _ => true
  | _ => false
def sm0 (ρ : RB) (τ : RS) (J : RB) : X → X → Bool
  | .sym i c, y => (match lkS τ i c with
    | some z => beq0 z y
    | none => (match y with | .sym j e => cond (isB J i j) (Nat.beq c e) false | _ => false))
  | .ptr a o, .ptr b o' => cond (isB ρ a b) (Nat.beq o o') false
  | .sl a o l c, .sl b o' l' c' => cond (isB ρ a b) (cond (Nat.beq o o') (cond (Nat.beq l l') (Nat.beq c c') false) false) false
  | .so a o l c, .so b o' l' c' => cond (isB ρ a b) (cond (Nat.beq o o') (cond (Nat.beq l l') (Nat.beq c c') false) false) false
  | .se a o l c, .se b o' l' c' => cond (isB ρ a b) (cond (Nat.beq o o') (cond (Nat.beq l l') (Nat.beq c c') false) false) false
  | .mp a, .mp b => isB ρ a b
  | x, y => cond (freeX x) (beq0 x y) false
def smL0 (ρ : RB) (τ : RS) (J : RB) : List X → List X → Bool
  | [], [] => true
  | x :: r, y :: s => cond (sm0 ρ τ J x y) (smL0 ρ τ J r s) false
  | _, _ => false
def smX (ρ : RB) (τ : RS) (J : RB) : X → X → Bool
  | .agg xs, .agg ys => smL0 ρ τ J xs ys
  | x, y => sm0 ρ τ J x y
def smL (ρ : RB) (τ : RS) (J : RB) : List X → List X → Bool
  | [], [] => true
  | x :: r, y :: s => cond (smX ρ τ J x y) (smL ρ τ J r s) false
  | _, _ => false
def smM (ρ : RB) (τ : RS) (J : RB) : List (Int × X) → List (Int × X) → Bool
  | [], [] => true
  | (k, x) :: r, (k', y) :: s => cond (decide (k = k')) (cond (smX ρ τ J x y) (smM ρ τ J r s) false) false
  | _, _ => false
def smB (ρ : RB) (τ : RS) (J : RB) : XB → XB → Bool
  | .bl t op cs, .bl t' op' cs' => cond (Nat.beq t t') (cond (decide (op = op')) (smL ρ τ J cs cs') false) false
  | .mp es, .mp es' => smM ρ τ J es es'
  | _, _ => false
def smS (ρ : RB) (τ : RS) (J : RB) : List (Nat × XB) → List (Nat × XB) → Bool
  | [], _ => true
  | (b, x) :: r, bs => match lkB ρ b with
    | some c => (match findB bs c with
      | some y => cond (smB ρ τ J x y) (smS ρ τ J r (delB bs c)) false
      | none => false)
    | none => false
theorem isB_eq {ρ : RB} {a b : Nat} (h : isB ρ a b = true) : lkB ρ a = some b := by
  unfold isB at h
  split at h
  · rename_i c hc; rw [hc, beq_eq h]
  · cases h
theorem cond_tf {a b : Bool} (h : cond a b false = true) : a = true ∧ b = true := by
  cases a with
  | true => exact ⟨rfl, h⟩
  | false => cases h
/-- What the names of the one state stand for in the other one. -/
structure RenOk (AT AT' : Nat → Nat → Value) (σ σ' : Sg) (ρ : RB) (τ : RS) (J : RB) : Prop where
  b : ∀ a c, lkB ρ a = some c → σ' a = σ c
  s : ∀ i c z, lkS τ i c = some z → den AT σ z = some (AT' i c)
  j : ∀ i j, lkB J i = some j → ∀ c, AT' i c = AT j c
section
variable {AT AT' : Nat → Nat → Value} {P : Program} {σ σ' : Sg} {ρ : RB} {τ : RS} {J : RB} {w0 w : World} {F : List HP}
theorem free_den {x : X} (h : freeX x = true) : den AT' σ' x = den AT σ x := by
  cases x <;> first | (simp only [den]; done) | cases h
theorem sm0_ok (H : RenOk AT AT' σ σ' ρ τ J) {x y : X} {v : Value} (h : sm0 ρ τ J x y = true) (hy : den AT σ y = some v) : den AT' σ' x = some v := by
  unfold sm0 at h
  split at h
  · rename_i i c y
    split at h
    · rename_i z hz
      rw [← beq0_eq h, H.s _ _ _ hz] at hy
      rw [den_sym, ← Option.some.inj hy]
    · split at h
      · rename_i j e
        obtain ⟨h1, h2⟩ := cond_tf h
        cases den_sym.1 hy
        rw [den_sym, H.j _ _ (isB_eq h1), beq_eq h2]
      · cases h
  · obtain ⟨h1, h2⟩ := cond_tf h
    obtain ⟨g, hg, rfl⟩ := den_ptr.1 hy
    exact den_ptr.2 ⟨g, by rw [H.b _ _ (isB_eq h1), hg], by rw [beq_eq h2]⟩
  · obtain ⟨h1, h2⟩ := cond_tf h
    obtain ⟨h2, h3⟩ := cond_tf h2
    obtain ⟨h3, h4⟩ := cond_tf h3
    obtain ⟨hl, g, hg, rfl⟩ := den_sl.1 hy
    exact den_sl.2 ⟨by rw [beq_eq h3, beq_eq h4]; exact hl, g, by rw [H.b _ _ (isB_eq h1), hg], by rw [beq_eq h2, beq_eq h3, beq_eq h4]⟩
  · obtain ⟨h1, h2⟩ := cond_tf h
    obtain ⟨h2, h3⟩ := cond_tf h2
    obtain ⟨h3, h4⟩ := cond_tf h3
    obtain ⟨g, hg, hl, rfl⟩ := den_so.1 hy
    exact den_so.2 ⟨g, by rw [H.b _ _ (isB_eq h1), hg], by rw [beq_eq h3, beq_eq h4]; exact hl, by rw [beq_eq h2, beq_eq h3, beq_eq h4]⟩
  · obtain ⟨h1, h2⟩ := cond_tf h
    obtain ⟨h2, h3⟩ := cond_tf h2
    obtain ⟨h3, h4⟩ := cond_tf h3
    obtain ⟨g, hg, hl, rfl⟩ := den_se.1 hy
    exact den_se.2 ⟨g, by rw [H.b _ _ (isB_eq h1), hg], by rw [beq_eq h4]; exact hl, by rw [beq_eq h2, beq_eq h3, beq_eq h4]⟩
  · obtain ⟨g, hg, rfl⟩ := den_mp.1 hy
    exact den_mp.2 ⟨g, by rw [H.b _ _ (isB_eq h), hg], rfl⟩
  · obtain ⟨h1, h2⟩ := cond_tf h
    rw [free_den h1, beq0_eq h2, hy]
theorem smL0_ok (H : RenOk AT AT' σ σ' ρ τ J) : ∀ {xs ys : List X} {vs : List Value}, smL0 ρ τ J xs ys = true → DL AT σ ys vs → DL AT' σ' xs vs
  | [], [], vs, _, hd => hd
  | x :: r, y :: s, [], _, hd => by cases hd
  | x :: r, y :: s, v :: vs, h, hd => by
    obtain ⟨h1, h2⟩ := cond_tf h
    exact DL.cons (sm0_ok H h1 (List.cons.inj hd).1) (smL0_ok H h2 (List.cons.inj hd).2)
  | [], _ :: _, _, h, _ => by cases h
  | _ :: _, [], _, h, _ => by cases h
theorem smX_ok (H : RenOk AT AT' σ σ' ρ τ J) {x y : X} {v : Value} (h : smX ρ τ J x y = true) (hy : den AT σ y = some v) : den AT' σ' x = some v := by
  unfold smX at h
  split at h
  · obtain ⟨vs, h1, rfl⟩ := den_agg.1 hy
    exact den_agg.2 ⟨vs, smL0_ok H h h1, rfl⟩
  · exact sm0_ok H h hy
theorem smL_ok (H : RenOk AT AT' σ σ' ρ τ J) : ∀ {xs ys : List X} {vs : List Value}, smL ρ τ J xs ys = true → DL AT σ ys vs → DL AT' σ' xs vs
  | [], [], vs, _, hd => hd
  | x :: r, y :: s, [], _, hd => by cases hd
  | x :: r, y :: s, v :: vs, h, hd => by
    obtain ⟨h1, h2⟩ := cond_tf h
    exact DL.cons (smX_ok H h1 (List.cons.inj hd).1) (smL_ok H h2 (List.cons.inj hd).2)
  | [], _ :: _, _, h, _ => by cases h
  | _ :: _, [], _, h, _ => by cases h
theorem smM_ok (H : RenOk AT AT' σ σ' ρ τ J) : ∀ {es fs : List (Int × X)}, smM ρ τ J es fs = true → (∀ p ∈ fs, ∃ v, den AT σ p.2 = some v) → es.map (·.1) = fs.map (·.1) ∧ (∀ p ∈ es, ∃ v, den AT' σ' p.2 = some v) ∧ ∀ k, gm AT' σ' es k = gm AT σ fs k
  | [], [], _, _ => ⟨rfl, (fun _ h => by cases h), fun _ => rfl⟩
  | (k, x) :: r, (k', y) :: s, h, hd => by
    obtain ⟨h1, h2⟩ := cond_tf h
    obtain ⟨h2, h3⟩ := cond_tf h2
    have h1 := of_decide_eq_true h1
    subst h1
    obtain ⟨e1, e2, e3⟩ := smM_ok H h3 fun p hp => hd p (List.mem_cons_of_mem _ hp)
    obtain ⟨v, hv⟩ := hd (k, y) (by simp)
    have hx := smX_ok H h2 hv
    refine ⟨by simp only [List.map_cons, e1], fun p hp => ?_, fun n => ?_⟩
    · rcases List.mem_cons.1 hp with rfl | hp
      · exact ⟨v, hx⟩
      · exact e2 p hp
    · unfold gm lkM
      cases decide (k = n) with
      | true => simp only [cond_true, Option.bind_some]; rw [hx, hv]
      | false => exact e3 n
  | [], _ :: _, h, _ => by cases h
  | _ :: _, [], h, _ => by cases h
theorem smB_ok (H : RenOk AT AT' σ σ' ρ τ J) {b c : Nat} {x y : XB} (hb : lkB ρ b = some c) (h : smB ρ τ J x y = true) {hh : Hp} (hp : partB AT P σ (c, y) hh) : partB AT' P σ' (b, x) hh := by
  unfold smB at h
  split at h
  · obtain ⟨h1, h2⟩ := cond_tf h
    obtain ⟨h2, h3⟩ := cond_tf h2
    cases beq_eq h1
    cases of_decide_eq_true h2
    obtain ⟨g, vs, pre, junk, p1, p2, p3, p4, p5⟩ := hp
    exact ⟨g, vs, pre, junk, by rw [H.b _ _ hb, p1], smL_ok H h3 p2, p3, p4, p5⟩
  · obtain ⟨g, p1, p2, p3, p4⟩ := hp
    obtain ⟨e1, e2, e3⟩ := smM_ok H h p2
    refine ⟨g, by rw [H.b _ _ hb, p1], e2, by rw [e1]; exact p3, ?_⟩
    have : gm AT' σ' _ = gm AT σ _ := funext e3
    rw [this]
    have hl : ∀ {es fs : List (Int × X)}, es.map (·.1) = fs.map (·.1) → es.length = fs.length := fun e => by simpa using congrArg List.length e
    rw [hl e1]
    exact p4
  · cases h
theorem keepN_nil : ∀ (bs : List (Nat × XB)), keepN [] bs = []
  | [] => rfl
  | (b, x) :: r => by
    show cond (hasN [] b) _ (keepN [] r) = []
    rw [keepN_nil r]
    rfl
theorem smS_ok (H : RenOk AT AT' σ σ' ρ τ J) : ∀ {bs cs : List (Nat × XB)} {h : Hp}, smS ρ τ J bs cs = true → Sat (cs.map (partB AT P σ) ++ F) h → Sat (bs.map (partB AT' P σ') ++ F) h
  | [], cs, h, _, s => by
    have := keep_sat (AT := AT) (P := P) (σ := σ) (F := F) [] s
    rw [keepN_nil] at this
    exact this
  | (b, x) :: r, cs, h, hs, s => by
    unfold smS at hs
    split at hs
    · rename_i c hc
      split at hs
      · rename_i y hy
        obtain ⟨h1, h2⟩ := cond_tf hs
        obtain ⟨L1, L2, e1, -, e3⟩ := find_split hy
        rw [e1, List.map_append, List.map_cons, List.append_assoc, List.cons_append] at s
        have s := s.perm List.perm_middle
        rw [← List.append_assoc, ← List.map_append, ← e3] at s
        obtain ⟨u1, u2, sp, a, l⟩ := s
        exact ⟨u1, u2, sp, smB_ok H hc h1 a, smS_ok H h2 l⟩
      · cases hs
    · cases hs
def sgR (ρ : RB) (σ : Sg) : Sg := fun a => (lkB ρ a).bind σ
def below (n : Nat) : RB → Bool
  | [] => true
  | (a, _) :: r => cond (Nat.blt a n) (below n r) false
theorem below_none : ∀ {ρ : RB} {n m : Nat}, below n ρ = true → n ≤ m → lkB ρ m = none
  | [], _, _, _, _ => rfl
  | (a, b) :: r, n, m, h, hm => by
    obtain ⟨h1, h2⟩ := cond_tf h
    have h1 := blt_lt h1
    unfold lkB
    have : Nat.beq a m = false := by rw [← Bool.not_eq_true]; intro h; have := beq_eq h; omega
    rw [this]
    exact below_none h2 hm
theorem renOk (hs : ∀ i c z, lkS τ i c = some z → den AT σ z = some (AT' i c)) (hj : ∀ i j, lkB J i = some j → ∀ c, AT' i c = AT j c) : RenOk AT AT' σ (sgR ρ σ) ρ τ J :=
  ⟨fun a c h => by unfold sgR; rw [h]; rfl, hs, hj⟩
/-- The state, told anew. -/
theorem Rep.ren {S S' : XS} (r : Rep AT P w0 F σ S' w) (h : smS ρ τ J S.bs S'.bs = true) (hn : below S.nx ρ = true) (H : RenOk AT AT' σ (sgR ρ σ) ρ τ J) : Rep AT' P w0 F (sgR ρ σ) S w :=
  ⟨⟨smS_ok H h r.d.1, r.d.2⟩, fun n hm => by unfold sgR; rw [below_none hn hm]; rfl⟩
/-- The same state; a name for numbers more. -/
theorem Rep.at_ {S : XS} (r : Rep AT P w0 F σ S w) : ∀ {G : List HP} {w' : World}, D w0 (S.bs.map (partB AT P σ) ++ (G ++ F)) w' → Rep AT P w0 (G ++ F) σ S w' := fun d => ⟨d, r.fresh⟩
end
end Go.Jac
