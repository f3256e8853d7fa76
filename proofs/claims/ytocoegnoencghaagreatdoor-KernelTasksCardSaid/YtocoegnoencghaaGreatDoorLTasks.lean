/- KernelTasks: the runs. -/
import Derived.Test.YtocoegnoencghaaGreatDoorKt
import Derived.Test.YtocoegnoencghaaGreatDoorKr
set_option maxRecDepth 100000
namespace Go.Jac
open Go

def mixN : Nat → Int → Int
  | 0, d => d
  | n + 1, d => mixI (mixN n d)
abbrev XT := List (BinOp × X × X × X)
abbrev XX := List (BinOp × Nat × Int × Nat)
def lkT : XT → BinOp → X → X → Option X
  | [], _, _, _ => none
  | (o, a, b, z) :: r, op, x, y => cond (decide (o = op)) (cond (beq0 a x) (cond (beq0 b y) (some z) (lkT r op x y)) (lkT r op x y)) (lkT r op x y)
def lkX : XX → BinOp → Nat → Int → Option Nat
  | [], _, _, _ => none
  | (o, j, n, i) :: r, op, j', n' => cond (decide (o = op)) (cond (Nat.beq j j') (cond (decide (n = n')) (some i) (lkX r op j' n')) (lkX r op j' n')) (lkX r op j' n')
/-- Draws: j stands for what Mix makes of draw j % 8, j / 8 times over; sym 0 c: the law's own. -/
def drW (bs : Nat → Int) (ex : Nat → Value) (E : XX) (T : XT) : Dr := ⟨fun j => mixN (j / 8) (bs (j % 8)), ex, fun j => some (j + 8), lkX E, lkT T⟩
/-- The same, as far as a run sees it. -/
def drR (E : XX) (T : XT) : Dr := drW (fun _ => 0) (fun _ => .bool true) E T
theorem gvD_drR (gl : Nat → Option (List X)) (bs : Nat → Int) (ex : Nat → Value) (E : XX) (T : XT) : gvD gl (drR E T) = gvD gl (drW bs ex E T) := rfl
theorem mixN_i64 {d : Int} (h : I64 d) : ∀ n, I64 (mixN n d)
  | 0 => h
  | n + 1 => I64.wrap _
theorem lkT_mem : ∀ {T : XT} {op : BinOp} {x y z : X}, lkT T op x y = some z → (op, x, y, z) ∈ T
  | [], _, _, _, _, h => by cases h
  | (o, a, b, c) :: r, op, x, y, z, h => by
    unfold lkT at h
    have rest : lkT r op x y = some z → (op, x, y, z) ∈ (o, a, b, c) :: r := fun h => List.mem_cons_of_mem _ (lkT_mem h)
    cases h1 : decide (o = op) with
    | false => rw [h1] at h; exact rest h
    | true =>
      rw [h1, cond_true] at h
      cases h2 : beq0 a x with
      | false => rw [h2] at h; exact rest h
      | true =>
        rw [h2, cond_true] at h
        cases h3 : beq0 b y with
        | false => rw [h3] at h; exact rest h
        | true =>
          rw [h3] at h
          cases h
          rw [← of_decide_eq_true h1, ← beq0_eq h2, ← beq0_eq h3]
          simp
theorem lkX_mem : ∀ {E : XX} {op : BinOp} {j : Nat} {n : Int} {i : Nat}, lkX E op j n = some i → (op, j, n, i) ∈ E
  | [], _, _, _, _, h => by cases h
  | (o, a, b, c) :: r, op, x, y, z, h => by
    unfold lkX at h
    have rest : lkX r op x y = some z → (op, x, y, z) ∈ (o, a, b, c) :: r := fun h => List.mem_cons_of_mem _ (lkX_mem h)
    cases h1 : decide (o = op) with
    | false => rw [h1] at h; exact rest h
    | true =>
      rw [h1, cond_true] at h
      cases h2 : Nat.beq a x with
      | false => rw [h2] at h; exact rest h
      | true =>
        rw [h2, cond_true] at h
        cases h3 : decide (b = y) with
        | false => rw [h3] at h; exact rest h
        | true =>
          rw [h3] at h
          cases h
          rw [← of_decide_eq_true h1, ← beq_eq h2, ← of_decide_eq_true h3]
          simp
/-- What a name or a number stands for. -/
def vT (at_ : Nat → Nat → Value) : X → Value
  | .int k n => .int k n
  | .bool b => .bool b
  | .sym j c => at_ j c
  | _ => undef
def okT : X → Bool
  | .int _ _ => true
  | .bool _ => true
  | .sym _ _ => true
  | _ => false
theorem vT_den {at_ : Nat → Nat → Value} {σ : Sg} {x : X} (h : okT x = true) : den at_ σ x = some (vT at_ x) := by
  cases x <;> first | rfl | cases h
/-- A line of a table is right. -/
def Ent (at_ : Nat → Nat → Value) (op : BinOp) (x y z : X) : Prop := ∃ k a k' b, okT x = true ∧ okT y = true ∧ okT z = true ∧ vT at_ x = .int k a ∧ vT at_ y = .int k' b ∧ intBin op k a k' b = some (vT at_ z)
theorem Ent.ob {at_ : Nat → Nat → Value} {op : BinOp} {x y z : X} (h : Ent at_ op x y z) : OB at_ op x y z := by
  obtain ⟨k, a, k', b, h1, h2, h3, h4, h5, h6⟩ := h
  exact fun σ => ⟨k, a, k', b, _, by rw [vT_den h1, h4], by rw [vT_den h2, h5], h6, vT_den h3⟩
theorem drW_ok {bs : Nat → Int} {ex : Nat → Value} {E : XX} {T : XT} (hb : ∀ c, I64 (bs c)) (h1 : ∀ c, (ex c).oneCell' = true) (hE : ∀ op j n i, (op, j, n, i) ∈ E → i ≠ 0 ∧ intBin op .i64 (mixN (j / 8) (bs (j % 8))) .i64 n = some (.int .i64 (mixN (i / 8) (bs (i % 8)))))
    (hT : ∀ op x y z, (op, x, y, z) ∈ T → Ent (drW bs ex E T).at_ op x y z) : DrOk (drW bs ex E T) := by
  refine ⟨fun j => mixN_i64 (hb _) _, h1, fun j i h => ?_, fun op j n i h => hE op j n i (lkX_mem h), fun op x y z h => (hT op x y z (lkT_mem h)).ob⟩
  cases h
  refine ⟨?_, by omega⟩
  show mixN ((j + 8) / 8) (bs ((j + 8) % 8)) = mixI (mixN (j / 8) (bs (j % 8)))
  rw [show (j + 8) / 8 = j / 8 + 1 from by omega, show (j + 8) % 8 = j % 8 from by omega]
  rfl
end Go.Jac
set_option maxRecDepth 1000000
namespace Go.Proofs.YtocoegnoencghaaGreatDoor
open Go Go.Jac
theorem awake_run : isTrue (xRun pg gv0 intr0 3000 60 true 14 [] s0) = true := by kernel_rfl
theorem awake_ok {w0 w : World} {L : List HP} {K : Value → WP} (hN : Nmd w0) (hm : Old w0 ∈ L) (d : D w0 L w) (k : ∀ w', D w0 L w' → K (.bool true) w') : Cl pg 14 #[] K w :=
  true_of (AT := fun _ _ => .bool true) (fun _ _ => rfl) (gv0_ok hN hm) (vs := []) rfl awake_run d k
end Go.Proofs.YtocoegnoencghaaGreatDoor
set_option maxRecDepth 100000
namespace Go.Proofs.YtocoegnoencghaaGreatDoor
open Go Go.Jac
def intr1 (k : Nat) : Option (List X → XS → R (X × XS)) := cond (Nat.beq k 14) (some fun args S => match args with | [] => .ok (.bool true, S) | _ => .no 400) (intr0 k)
theorem intr1_ok {AT : Nat → Nat → Value} {w0 : World} {F : List HP} (hN : Nmd w0) (hm : Old w0 ∈ F) : IOk AT pg w0 F intr1 := by
  intro k f h
  unfold intr1 at h
  cases hk : Nat.beq k 14 with
  | false => rw [hk] at h; exact intr0_ok k f h
  | true =>
    rw [hk] at h
    have hk := beq_eq hk
    subst hk
    cases h
    refine ⟨fun _ _ => rfl, fun args S x S' h σ vs w K hd r k => ?_⟩
    dsimp only at h
    split at h
    · cases h
      cases vs with
      | cons _ _ => cases hd
      | nil => exact awake_ok hN (List.mem_append_right _ hm) r.d fun w' d => k σ _ w' (Sg.le.refl σ) ⟨d, r.fresh⟩ rfl
    · cases h
noncomputable def lawRun (E : XX) (T : XT) (k : Nat) (args : List X) : R (X × XS) := xRun pg (gvD glN (drR E T)) intr1 3000 60 true k args s0
theorem law_of {bs : Nat → Int} {ex : Nat → Value} {E : XX} {T : XT} (hD : DrOk (drW bs ex E T)) {w0 w : World} {L : List HP} {k : Nat} {args : List X} {vs : List Value} {K : Value → WP} (hN : Nmd w0) (hm : Old w0 ∈ L) (hd : DL (drW bs ex E T).at_ (fun _ => none) args vs) (h : isTrue (lawRun E T k args) = true)
    (d : D w0 L w) (kk : ∀ w', D w0 L w' → K (.bool true) w') : Cl pg k vs.toArray K w := by
  obtain ⟨S, hS⟩ := isTrue_ok h
  unfold lawRun at hS
  rw [gvD_drR glN bs ex E T] at hS
  refine (run_ok pg_mixed (at_one hD) (gvD_ok hD (glN_ok hN hm)) (fun _ => intr1_ok hN (List.mem_append_right _ hm)) 60 []).fn k args s0 _ S hS (fun _ => none) vs w K hd ⟨d, fun _ _ => rfl⟩ fun σ v w' _ r hv => ?_
  cases den_bool.1 hv
  exact kk w' (D.under_ r.d)
def allTrue : List (R (X × XS)) → Bool
  | [] => true
  | r :: l => cond (isTrue r) (allTrue l) false
theorem allTrue_mem : ∀ {l : List (R (X × XS))}, allTrue l = true → ∀ r ∈ l, isTrue r = true
  | [], _, r, h => by cases h
  | x :: l, h, r, hr => by
    unfold allTrue at h
    cases hx : isTrue x with
    | false => rw [hx] at h; cases h
    | true =>
      rw [hx] at h
      rcases List.mem_cons.1 hr with rfl | hr
      · exact hx
      · exact allTrue_mem h r hr
end Go.Proofs.YtocoegnoencghaaGreatDoor
set_option maxRecDepth 1000000
namespace Go.Proofs.YtocoegnoencghaaGreatDoor
open Go Go.Jac
def tasksT : XT := [(.eql, .sym 1 0, .sym 1 0, .bool true)]
noncomputable def tasksA (b : Bool) : R (X × XS) := lawRun [] tasksT 7 [.sym 2 0, .sym 1 0, .bool b]
theorem tasks_run1 : isTrue (tasksA true) = true := by kernel_rfl
theorem tasks_run2 : isTrue (tasksA false) = true := by kernel_rfl
/-- draw, code: unknown. -/
def tasksB (draw code : Int) (c : Nat) : Int := if c = 2 then draw else if c = 1 then code else 0
theorem tasks_D {draw code : Int} (h1 : I64 draw) (h2 : I64 code) : DrOk (drW (tasksB draw code) (fun _ => .bool true) [] tasksT) := by
  refine drW_ok (fun c => ?_) (fun _ => rfl) (fun _ _ _ _ h => by cases h) fun op x y z h => ?_
  · unfold tasksB; split
    · exact h1
    · split
      · exact h2
      · exact ⟨by decide, by decide⟩
  · unfold tasksT at h
    cases List.mem_singleton.1 h
    refine ⟨.i64, code, .i64, code, rfl, rfl, rfl, rfl, rfl, ?_⟩
    simp [intBin, vT]
theorem tasks_ok {draw code : Int} (h1 : I64 draw) (h2 : I64 code) (b : Bool) {w0 w : World} {L : List HP} {K : Value → WP} (hN : Nmd w0) (hm : Old w0 ∈ L) (d : D w0 L w) (k : ∀ w', D w0 L w' → K (.bool true) w') :
    Cl pg 7 #[.int .i64 draw, .int .i64 code, .bool b] K w := by
  have h : isTrue (tasksA b) = true := by
    cases b
    · exact tasks_run2
    · exact tasks_run1
  exact law_of (args := [.sym 2 0, .sym 1 0, .bool b]) (vs := [.int .i64 draw, .int .i64 code, .bool b]) (tasks_D h1 h2) hN hm rfl h d k
end Go.Proofs.YtocoegnoencghaaGreatDoor
