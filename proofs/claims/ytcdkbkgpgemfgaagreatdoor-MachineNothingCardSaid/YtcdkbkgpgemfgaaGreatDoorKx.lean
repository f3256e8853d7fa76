/- Chains of draws; tables of what operations on a law's own numbers come to. -/
import Derived.Test.YtcdkbkgpgemfgaaGreatDoorKt
set_option maxRecDepth 100000
namespace Go.Jac
open Go

def mixN : Nat → Int → Int
  | 0, d => d
  | n + 1, d => mixI (mixN n d)
abbrev XT := List (BinOp × X × X × X)
abbrev XX := List (BinOp × Nat × Int × Nat)
def lkT : XT → BinOp → X → X → Option X
  | [], _, _, _ => none
  | (o, a, b, z) :: r, op, x, y => cond (decide (o = op)) (cond (beq0 a x) (cond (beq0 b y) (some z) (lkT r op x y)) (lkT r op x y)) (lkT r op x y)
def lkX : XX → BinOp → Nat → Int → Option Nat
  | [], _, _, _ => none
  | (o, j, n, i) :: r, op, j', n' => cond (decide (o = op)) (cond (Nat.beq j j') (cond (decide (n = n')) (some i) (lkX r op j' n')) (lkX r op j' n')) (lkX r op j' n')
/-- Draws: j stands for what Mix makes of draw j % 8, j / 8 times over; sym 0 c: the law's own. -/
def drW (bs : Nat → Int) (ex : Nat → Value) (E : XX) (T : XT) : Dr := ⟨fun j => mixN (j / 8) (bs (j % 8)), ex, fun j => some (j + 8), lkX E, lkT T, fun _ _ _ => none⟩
/-- The same, as far as a run sees it. -/
def drR (E : XX) (T : XT) : Dr := drW (fun _ => 0) (fun _ => .bool true) E T
theorem gvD_drR (gl : Nat → Option (List X)) (bs : Nat → Int) (ex : Nat → Value) (E : XX) (T : XT) : gvD gl (drR E T) = gvD gl (drW bs ex E T) := rfl
theorem mixN_i64 {d : Int} (h : I64 d) : ∀ n, I64 (mixN n d)
  | 0 => h
  | _ + 1 => I64.wrap _
theorem lkT_mem : ∀ {T : XT} {op : BinOp} {x y z : X}, lkT T op x y = some z → (op, x, y, z) ∈ T
  | [], _, _, _, _, h => by cases h
  | (o, a, b, c) :: r, op, x, y, z, h => by
    unfold lkT at h
    have rest : lkT r op x y = some z → (op, x, y, z) ∈ (o, a, b, c) :: r := fun h => List.mem_cons_of_mem _ (lkT_mem h)
    cases h1 : decide (o = op) with
    | false => rw [h1] at h; exact rest h
    | true =>
      rw [h1, cond_true] at h
      cases h2 : beq0 a x with
      | false => rw [h2] at h; exact rest h
      | true =>
        rw [h2, cond_true] at h
        cases h3 : beq0 b y with
        | false => rw [h3] at h; exact rest h
        | true =>
          rw [h3] at h
          cases h
          rw [← of_decide_eq_true h1, ← beq0_eq h2, ← beq0_eq h3]
          simp
theorem lkX_mem : ∀ {E : XX} {op : BinOp} {j : Nat} {n : Int} {i : Nat}, lkX E op j n = some i → (op, j, n, i) ∈ E
  | [], _, _, _, _, h => by cases h
  | (o, a, b, c) :: r, op, x, y, z, h => by
    unfold lkX at h
    have rest : lkX r op x y = some z → (op, x, y, z) ∈ (o, a, b, c) :: r := fun h => List.mem_cons_of_mem _ (lkX_mem h)
    cases h1 : decide (o = op) with
    | false => rw [h1] at h; exact rest h
    | true =>
      rw [h1, cond_true] at h
      cases h2 : Nat.beq a x with
      | false => rw [h2] at h; exact rest h
      | true =>
        rw [h2, cond_true] at h
        cases h3 : decide (b = y) with
        | false => rw [h3] at h; exact rest h
        | true =>
          rw [h3] at h
          cases h
          rw [← of_decide_eq_true h1, ← beq_eq h2, ← of_decide_eq_true h3]
          simp
/-- What a name or a number stands for. -/
def vT (at_ : Nat → Nat → Value) : X → Value
  | .int k n => .int k n
  | .bool b => .bool b
  | .sym j c => at_ j c
  | _ => undef
def okT : X → Bool
  | .int _ _ => true
  | .bool _ => true
  | .sym _ _ => true
  | _ => false
theorem vT_den {at_ : Nat → Nat → Value} {σ : Sg} {x : X} (h : okT x = true) : den at_ σ x = some (vT at_ x) := by
  cases x <;> first | rfl | cases h
/-- A line of a table is right. -/
def Ent (at_ : Nat → Nat → Value) (op : BinOp) (x y z : X) : Prop := ∃ k a k' b, okT x = true ∧ okT y = true ∧ okT z = true ∧ vT at_ x = .int k a ∧ vT at_ y = .int k' b ∧ intBin op k a k' b = some (vT at_ z)
theorem Ent.ob {at_ : Nat → Nat → Value} {op : BinOp} {x y z : X} (h : Ent at_ op x y z) : OB at_ op x y z := by
  obtain ⟨k, a, k', b, h1, h2, h3, h4, h5, h6⟩ := h
  exact fun σ => ⟨k, a, k', b, _, by rw [vT_den h1, h4], by rw [vT_den h2, h5], h6, vT_den h3⟩
theorem drW_ok {bs : Nat → Int} {ex : Nat → Value} {E : XX} {T : XT} (hb : ∀ c, I64 (bs c)) (h1 : ∀ c, (ex c).oneCell' = true) (hE : ∀ op j n i, (op, j, n, i) ∈ E → i ≠ 0 ∧ intBin op .i64 (mixN (j / 8) (bs (j % 8))) .i64 n = some (.int .i64 (mixN (i / 8) (bs (i % 8)))))
    (hT : ∀ op x y z, (op, x, y, z) ∈ T → Ent (drW bs ex E T).at_ op x y z) : DrOk (drW bs ex E T) := by
  refine ⟨fun j => mixN_i64 (hb _) _, h1, fun j i h => ?_, fun op j n i h => hE op j n i (lkX_mem h), fun op x y z h => (hT op x y z (lkT_mem h)).ob, fun _ _ _ _ h => by cases h⟩
  cases h
  refine ⟨?_, by omega⟩
  show mixN ((j + 8) / 8) (bs ((j + 8) % 8)) = mixI (mixN (j / 8) (bs (j % 8)))
  rw [show (j + 8) / 8 = j / 8 + 1 from by omega, show (j + 8) % 8 = j % 8 from by omega]
  rfl
/-! ### The same, with a table of least and greatest numbers -/
abbrev XM := List (Bool × X × X × X)
def lkM2 : XM → Bool → X → X → Option X
  | [], _, _, _ => none
  | (o, a, b, z) :: r, op, x, y => cond (decide (o = op)) (cond (beq0 a x) (cond (beq0 b y) (some z) (lkM2 r op x y)) (lkM2 r op x y)) (lkM2 r op x y)
theorem lkM2_mem : ∀ {T : XM} {op : Bool} {x y z : X}, lkM2 T op x y = some z → (op, x, y, z) ∈ T
  | [], _, _, _, _, h => by cases h
  | (o, a, b, c) :: r, op, x, y, z, h => by
    unfold lkM2 at h
    have rest : lkM2 r op x y = some z → (op, x, y, z) ∈ (o, a, b, c) :: r := fun h => List.mem_cons_of_mem _ (lkM2_mem h)
    cases h1 : decide (o = op) with
    | false => rw [h1] at h; exact rest h
    | true =>
      rw [h1, cond_true] at h
      cases h2 : beq0 a x with
      | false => rw [h2] at h; exact rest h
      | true =>
        rw [h2, cond_true] at h
        cases h3 : beq0 b y with
        | false => rw [h3] at h; exact rest h
        | true =>
          rw [h3] at h
          cases h
          rw [← of_decide_eq_true h1, ← beq0_eq h2, ← beq0_eq h3]
          simp
def drM (bs : Nat → Int) (ex : Nat → Value) (E : XX) (T : XT) (M : XM) : Dr := ⟨fun j => mixN (j / 8) (bs (j % 8)), ex, fun j => some (j + 8), lkX E, lkT T, lkM2 M⟩
def drMR (E : XX) (T : XT) (M : XM) : Dr := drM (fun _ => 0) (fun _ => .bool true) E T M
theorem gvD_drM (gl : Nat → Option (List X)) (bs : Nat → Int) (ex : Nat → Value) (E : XX) (T : XT) (M : XM) : gvD gl (drMR E T M) = gvD gl (drM bs ex E T M) := rfl
theorem at_M (bs : Nat → Int) (ex : Nat → Value) (E : XX) (T : XT) (M : XM) : (drM bs ex E T M).at_ = (drW bs ex E T).at_ := rfl
/-- A line of the table of least and greatest. -/
def EntM (at_ : Nat → Nat → Value) (mx : Bool) (x y z : X) : Prop := ∃ a b : Int, okT x = true ∧ okT y = true ∧ okT z = true ∧ vT at_ x = .int .i64 a ∧ vT at_ y = .int .i64 b ∧ vT at_ z = .int .i64 (cond mx (cond (decide (b > a)) b a) (cond (decide (b < a)) b a))
theorem drM_ok {bs : Nat → Int} {ex : Nat → Value} {E : XX} {T : XT} {M : XM} (hD : DrOk (drW bs ex E T)) (hM : ∀ mx x y z, (mx, x, y, z) ∈ M → EntM (drW bs ex E T).at_ mx x y z) : DrOk (drM bs ex E T M) :=
  ⟨hD.i64, hD.ex1, hD.nx, hD.ext, hD.exb, fun mx x y z h σ => by
    obtain ⟨a, b, h1, h2, h3, h4, h5, h6⟩ := hM mx x y z (lkM2_mem h)
    exact ⟨a, b, by rw [at_M, vT_den h1, h4], by rw [at_M, vT_den h2, h5], by rw [at_M, vT_den h3, h6]⟩⟩
end Go.Jac
