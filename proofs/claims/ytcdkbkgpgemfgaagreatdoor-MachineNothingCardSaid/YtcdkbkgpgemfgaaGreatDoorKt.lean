/- Unknown draws, and the handles' values that are made of them. -/
import Derived.Test.YtcdkbkgpgemfgaaGreatDoorKm
set_option maxRecDepth 100000
namespace Go.Jac
open Go

/-- The value of a handle: of a draw and a place. -/
def hvI (d : Int) (p : Nat) : Int := d % 65536 * 1048576 + (4 * (p : Int)) + 3
def mx1 (d : Int) : Int := IntKind.u64.wrap d
def mx2 (d : Int) : Int := IntKind.u64.wrap (mx1 d * 2862933555777941757)
def mx3 (d : Int) : Int := IntKind.u64.wrap (mx2 d + 3037000493)
def mx4 (d : Int) : Int := IntKind.u64.wrap (mx3 d * 2 ^ 1)
def mx5 (d : Int) : Int := (mx4 d).fdiv (2 ^ 1)
def mixI (d : Int) : Int := IntKind.i64.wrap (mx5 d)
/-- What is made of a draw, by code: 0 the draw; .. ; from 10 on, for each place p: four of them. -/
def dvV (d : Int) (c : Nat) : Value :=
  if c = 0 then .int .i64 d else if c = 1 then .int .i64 (d % 65536) else if c = 2 then .int .i64 (d % 65536 * 1048576)
  else if c = 3 then .int .u64 (mx1 d) else if c = 4 then .int .u64 (mx2 d) else if c = 5 then .int .u64 (mx3 d) else if c = 6 then .int .u64 (mx4 d) else if c = 7 then .int .u64 (mx5 d)
  else if c % 4 = 0 then .int .i64 (d % 65536 * 1048576 + (4 * ((c / 4 - 2 : Nat) : Int))) else if c % 4 = 1 then .int .i64 (hvI d (c / 4 - 2)) else if c % 4 = 2 then .int .i64 (d % 65536 * 4) else .int .i64 (d % 65536 * 262144 + ((c / 4 - 2 : Nat) : Int))
theorem dvV_one (d : Int) (c : Nat) : (dvV d c).oneCell' = true := by
  unfold dvV
  repeat (split; rfl)
  rfl
structure Dr where
  dr : Nat → Int
  ex : Nat → Value
  nx : Nat → Option Nat
  ext : BinOp → Nat → Int → Option Nat
  exb : BinOp → X → X → Option X
  mm : Bool → X → X → Option X := fun _ _ _ => none
def b2 (b : Bool) (x : X) : Option X := cond b (some x) none
/-- Operations on what is made of a draw; codes of places are 8 + 4 p and on. -/
def andH (j c : Nat) (n : Int) : Option X := cond (Nat.beq c 0) (b2 (decide (n = 65535)) (.sym (j + 1) 1)) (cond (Nat.ble 8 c) (cond (Nat.beq (c % 4) 1) (b2 (decide (n = 3)) (.int .i64 3)) (cond (Nat.beq (c % 4) 2) (b2 (decide (n = 3)) (.int .i64 0)) (cond (Nat.beq (c % 4) 3) (cond (Nat.blt (c / 4) 60000) (b2 (decide (n = 65535)) (.int .i64 (c / 4 - 2 : Nat))) none) none))) none)
def shlH (j c : Nat) (n : Int) : Option X := cond (Nat.beq c 1) (b2 (decide (n = 20)) (.sym (j + 1) 2)) (cond (Nat.beq c 5) (b2 (decide (n = 1)) (.sym (j + 1) 6)) none)
def orD (j c : Nat) (n : Int) : Option X := cond (Nat.beq c 2) (match n with | .ofNat m => cond (Nat.beq (m % 4) 0) (cond (Nat.blt m 200000) (some (.sym (j + 1) (m + 8))) none) none | _ => none) (cond (Nat.ble 8 c) (cond (Nat.beq (c % 4) 0) (cond (Nat.blt (c / 4) 60000) (b2 (decide (n = 3)) (.sym (j + 1) (c + 1))) none) none) none)
def hnd (c : Nat) : Bool := cond (Nat.ble 8 c) (cond (Nat.beq (c % 4) 1) (Nat.blt (c / 4) 60000) false) false
def shrH (j c : Nat) (n : Int) : Option X := cond (Nat.beq c 6) (b2 (decide (n = 1)) (.sym (j + 1) 7)) (cond (hnd c) (cond (decide (n = 18)) (some (.sym (j + 1) (c + 1))) (b2 (decide (n = 2)) (.sym (j + 1) (c + 2)))) none)
def eqSS (neg : Bool) (i c j e : Nat) : Option X := cond (hnd c) (cond (hnd e) (cond (Nat.beq c e) (b2 (Nat.beq i j) (.bool (!neg))) (some (.bool neg))) none) none
def binI64 (D : Dr) (op : BinOp) (j c : Nat) (n : Int) : Option X := match op with
  | .and => andH j c n
  | .shl => shlH j c n
  | .or => orD j c n
  | .shr => shrH j c n
  | .lss => cond (hnd c) (b2 (decide (n = 0)) (.bool false)) none
  | .geq => cond (hnd c) (b2 (decide (n = 68719476736)) (.bool false)) none
  | .eql => cond (hnd c) (b2 (decide (n = 0)) (.bool false)) none
  | .neq => cond (hnd c) (b2 (decide (n = 0)) (.bool true)) none
  | op => cond (Nat.beq c 0) ((D.ext op (j + 1) n).map fun i => .sym i 0) none
def binU64 (op : BinOp) (j c : Nat) (n : Int) : Option X := match op with
  | .mul => cond (Nat.beq c 3) (b2 (decide (n = 2862933555777941757)) (.sym (j + 1) 4)) none
  | .add => cond (Nat.beq c 4) (b2 (decide (n = 3037000493)) (.sym (j + 1) 5)) none
  | .shl => shlH j c n
  | .shr => shrH j c n
  | _ => none
def binH0 (D : Dr) (op : BinOp) (x y : X) : Option X := match x, y with
  | .sym (j + 1) c, .int .i64 n => binI64 D op j c n
  | .sym (j + 1) c, .int .u64 n => binU64 op j c n
  | .sym (i + 1) c, .sym (j + 1) e => (match op with | .eql => eqSS false i c j e | .neq => eqSS true i c j e | _ => none)
  | _, _ => none
def binH (D : Dr) (op : BinOp) (x y : X) : Option X := match D.exb op x y with
  | some z => some z
  | none => binH0 D op x y
def convH (D : Dr) (k : IntKind) (x : X) : Option X := match x with
  | .sym (j + 1) c => cond (Nat.beq c 0) (cond (decide (k = .u64)) (some (.sym (j + 1) 3)) (cond (decide (k = .i64)) (some (.sym (j + 1) 0)) none)) (cond (Nat.beq c 7) (cond (decide (k = .i64)) ((D.nx (j + 1)).map fun i => .sym i 0) none) none)
  | _ => none
/-- What names of numbers stand for: sym 0 c is of the law's own. -/
def Dr.at_ (D : Dr) (j c : Nat) : Value := if j = 0 then D.ex c else dvV (D.dr j) c
theorem b2_some {b : Bool} {x z : X} (h : b2 b x = some z) : b = true ∧ z = x := by
  cases b with
  | true => cases h; exact ⟨rfl, rfl⟩
  | false => cases h
theorem cond_some {b : Bool} {x : Option X} {z : X} (h : cond b x none = some z) : b = true ∧ x = some z := by
  cases b with
  | true => exact ⟨rfl, h⟩
  | false => cases h
theorem cond_some' {b : Bool} {x : Option X} {z : X} (h : cond b none x = some z) : b = false ∧ x = some z := by
  cases b with
  | true => cases h
  | false => exact ⟨rfl, h⟩
theorem cond_some2 {b : Bool} {x y : Option X} {z : X} (h : cond b x y = some z) : (b = true ∧ x = some z) ∨ (b = false ∧ y = some z) := by
  cases b with
  | true => exact .inl ⟨rfl, h⟩
  | false => exact .inr ⟨rfl, h⟩
/-- What an oracle must give. -/
def OB (AT : Nat → Nat → Value) (op : BinOp) (x y z : X) : Prop := ∀ σ : Sg, ∃ k a k' b v, den AT σ x = some (.int k a) ∧ den AT σ y = some (.int k' b) ∧ intBin op k a k' b = some v ∧ den AT σ z = some v
/-- What an oracle for min and max must give. -/
def OM (AT : Nat → Nat → Value) (mx : Bool) (x y z : X) : Prop := ∀ σ : Sg, ∃ a b : Int, den AT σ x = some (.int .i64 a) ∧ den AT σ y = some (.int .i64 b) ∧ den AT σ z = some (.int .i64 (cond mx (cond (decide (b > a)) b a) (cond (decide (b < a)) b a)))
structure DrOk (D : Dr) : Prop where
  i64 : ∀ j, I64 (D.dr j)
  ex1 : ∀ c, (D.ex c).oneCell' = true
  nx : ∀ j i, D.nx j = some i → D.dr i = mixI (D.dr j) ∧ i ≠ 0
  ext : ∀ op j n i, D.ext op j n = some i → i ≠ 0 ∧ intBin op .i64 (D.dr j) .i64 n = some (.int .i64 (D.dr i))
  exb : ∀ op x y z, D.exb op x y = some z → OB D.at_ op x y z
  mm : ∀ mx x y z, D.mm mx x y = some z → OM D.at_ mx x y z
section
variable {D : Dr}
theorem at_s (j c : Nat) : D.at_ (j + 1) c = dvV (D.dr (j + 1)) c := by unfold Dr.at_; rw [if_neg (by omega)]
theorem dv8 {d : Int} {c : Nat} (h : 8 ≤ c) : dvV d c = if c % 4 = 0 then .int .i64 (d % 65536 * 1048576 + (4 * ((c / 4 - 2 : Nat) : Int))) else if c % 4 = 1 then .int .i64 (hvI d (c / 4 - 2)) else if c % 4 = 2 then .int .i64 (d % 65536 * 4) else .int .i64 (d % 65536 * 262144 + ((c / 4 - 2 : Nat) : Int)) := by
  unfold dvV
  rw [if_neg (by omega), if_neg (by omega), if_neg (by omega), if_neg (by omega), if_neg (by omega), if_neg (by omega), if_neg (by omega), if_neg (by omega)]
theorem dv80 {d : Int} {c : Nat} (h : 8 ≤ c) (h4 : c % 4 = 0) : dvV d c = .int .i64 (d % 65536 * 1048576 + (4 * ((c / 4 - 2 : Nat) : Int))) := by rw [dv8 h, if_pos h4]
theorem dv81 {d : Int} {c : Nat} (h : 8 ≤ c) (h4 : c % 4 = 1) : dvV d c = .int .i64 (hvI d (c / 4 - 2)) := by rw [dv8 h, if_neg (by omega), if_pos h4]
theorem dv82 {d : Int} {c : Nat} (h : 8 ≤ c) (h4 : c % 4 = 2) : dvV d c = .int .i64 (d % 65536 * 4) := by rw [dv8 h, if_neg (by omega), if_neg (by omega), if_pos h4]
theorem dv83 {d : Int} {c : Nat} (h : 8 ≤ c) (h4 : c % 4 = 3) : dvV d c = .int .i64 (d % 65536 * 262144 + ((c / 4 - 2 : Nat) : Int)) := by rw [dv8 h, if_neg (by omega), if_neg (by omega), if_neg (by omega)]
theorem ob_of {op : BinOp} {j c : Nat} {k k' : IntKind} {a n : Int} {z : X} {v : Value} (h1 : dvV (D.dr (j + 1)) c = .int k a) (h2 : intBin op k a k' n = some v) (h3 : ∀ σ, den D.at_ σ z = some v) : OB D.at_ op (.sym (j + 1) c) (.int k' n) z :=
  fun σ => ⟨k, a, k', n, v, by rw [den_sym, at_s, h1], den_int.2 rfl, h2, h3 σ⟩
theorem symd {j c : Nat} {v : Value} (h : dvV (D.dr (j + 1)) c = v) (σ : Sg) : den D.at_ σ (.sym (j + 1) c) = some v := by rw [den_sym, at_s, h]
theorem ib_and {a b : Int} : intBin .and .i64 a .i64 b = some (.int .i64 (iand .i64 a b)) := by simp [intBin, iand]
theorem ib_or {a b : Int} : intBin .or .i64 a .i64 b = some (.int .i64 (ior .i64 a b)) := by simp [intBin, ior]
theorem ib_shl {k k' : IntKind} {a b : Int} (h : ShOk b k) : intBin .shl k a k' b = some (.int k (k.wrap (a * 2 ^ b.toNat))) := by
  simp only [intBin]
  rw [if_neg (by have := h.1; omega), Nat.min_eq_left h.2]
theorem ib_shr {k k' : IntKind} {a b : Int} (h : ShOk b k) : intBin .shr k a k' b = some (.int k (a.fdiv (2 ^ b.toNat))) := by
  simp only [intBin]
  rw [if_neg (by have := h.1; omega), Nat.min_eq_left h.2]
theorem mod65536 (d : Int) : 0 ≤ d % 65536 ∧ d % 65536 < 65536 := ⟨Int.emod_nonneg _ (by decide), Int.emod_lt_of_pos _ (by decide)⟩
theorem hnd_ok {c : Nat} (h : hnd c = true) : 8 ≤ c ∧ c % 4 = 1 ∧ c / 4 < 60000 := by
  unfold hnd at h
  cases h1 : Nat.ble 8 c <;> rw [h1] at h <;> (try cases h)
  cases h2 : Nat.beq (c % 4) 1 <;> rw [h2] at h <;> (try cases h)
  exact ⟨Nat.le_of_ble_eq_true h1, Nat.eq_of_beq_eq_true h2, blt_lt h⟩
theorem int_den {AT : Nat → Nat → Value} {σ : Sg} {k : IntKind} {a b : Int} (h : a = b) : den AT σ (.int k a) = some (.int k b) := by rw [h]; exact den_int.2 rfl
theorem andH_ok {j c : Nat} {n : Int} {z : X} (h : andH j c n = some z) : OB D.at_ .and (.sym (j + 1) c) (.int .i64 n) z := by
  obtain ⟨m1, m2⟩ := mod65536 (D.dr (j + 1))
  unfold andH at h
  rcases cond_some2 h with ⟨hc, h⟩ | ⟨_, h⟩
  · have hc := beq_eq hc; subst hc
    obtain ⟨hn, rfl⟩ := b2_some h
    have hn := of_decide_eq_true hn; subst hn
    refine ob_of (a := D.dr (j + 1)) rfl ib_and fun σ => ?_
    rw [iand_mask _ 16 (by omega) _ (by decide)]
    exact symd rfl σ
  · obtain ⟨hc, h⟩ := cond_some h
    have hc := ble_le hc
    rcases cond_some2 h with ⟨h4, h⟩ | ⟨_, h⟩
    · obtain ⟨hn, rfl⟩ := b2_some h
      have hn := of_decide_eq_true hn; subst hn
      refine ob_of (dv81 hc (beq_eq h4)) ib_and fun σ => ?_
      rw [iand_mask _ 2 (by omega) _ (by decide)]
      refine int_den ?_
      unfold hvI
      omega
    · rcases cond_some2 h with ⟨h4, h⟩ | ⟨_, h⟩
      · obtain ⟨hn, rfl⟩ := b2_some h
        have hn := of_decide_eq_true hn; subst hn
        refine ob_of (dv82 hc (beq_eq h4)) ib_and fun σ => ?_
        rw [iand_mask _ 2 (by omega) _ (by decide)]
        refine int_den ?_
        omega
      · obtain ⟨h4, h⟩ := cond_some h
        obtain ⟨hp, h⟩ := cond_some h
        obtain ⟨hn, rfl⟩ := b2_some h
        have hn := of_decide_eq_true hn; subst hn
        have hp := blt_lt hp
        refine ob_of (dv83 hc (beq_eq h4)) ib_and fun σ => ?_
        rw [iand_mask _ 16 (by omega) _ (by decide)]
        refine int_den ?_
        omega
theorem shlH_ok {k' : IntKind} {j c : Nat} {n : Int} {z : X} (h : shlH j c n = some z) : OB D.at_ .shl (.sym (j + 1) c) (.int k' n) z := by
  obtain ⟨m1, m2⟩ := mod65536 (D.dr (j + 1))
  unfold shlH at h
  rcases cond_some2 h with ⟨hc, h⟩ | ⟨_, h⟩
  · have hc := beq_eq hc; subst hc
    obtain ⟨hn, rfl⟩ := b2_some h
    have hn := of_decide_eq_true hn; subst hn
    refine ob_of (a := D.dr (j + 1) % 65536) rfl (ib_shl (by decide)) fun σ => ?_
    rw [show (20 : Int).toNat = 20 from rfl, w64 (by omega) (by omega)]
    exact symd rfl σ
  · obtain ⟨hc, h⟩ := cond_some h
    have hc := beq_eq hc; subst hc
    obtain ⟨hn, rfl⟩ := b2_some h
    have hn := of_decide_eq_true hn; subst hn
    exact ob_of (a := mx3 (D.dr (j + 1))) rfl (ib_shl (by decide)) fun σ => symd rfl σ
theorem orD_ok {j c : Nat} {n : Int} {z : X} (h : orD j c n = some z) : OB D.at_ .or (.sym (j + 1) c) (.int .i64 n) z := by
  obtain ⟨m1, m2⟩ := mod65536 (D.dr (j + 1))
  unfold orD at h
  replace h := cond_some2 h
  rcases h with ⟨hc, h⟩ | ⟨_, h⟩
  · have hc := beq_eq hc; subst hc
    cases n with
    | negSucc _ => cases h
    | ofNat m =>
      replace h := cond_some h
      obtain ⟨h4, h⟩ := h
      replace h := cond_some h
      obtain ⟨hp, h⟩ := h
      cases h
      have h4 := beq_eq h4; have hp := blt_lt hp
      refine ob_of (a := D.dr (j + 1) % 65536 * 1048576) rfl ib_or fun σ => ?_
      have e : (Int.ofNat m) = ((m : Nat) : Int) := rfl
      rw [e, ior_add _ _ 20 (by omega) (by omega) (by omega) (by omega) (by omega)]
      refine symd ?_ σ
      rw [dv80 (by omega) (by omega)]
      congr 2
      omega
  · replace h := cond_some h
    obtain ⟨hc, h⟩ := h
    replace h := cond_some h
    obtain ⟨h4, h⟩ := h
    replace h := cond_some h
    obtain ⟨hp, h⟩ := h
    obtain ⟨hn, rfl⟩ := b2_some h
    have hn := of_decide_eq_true hn; subst hn
    have hc := ble_le hc; have h4 := beq_eq h4; have hp := blt_lt hp
    refine ob_of (dv80 hc h4) ib_or fun σ => ?_
    rw [ior_add _ _ 2 (by omega) (by omega) (by omega) (by omega) (by omega)]
    refine symd ?_ σ
    rw [dv81 (by omega) (by omega)]
    unfold hvI
    congr 2
    omega
theorem shrH_ok {k' : IntKind} {j c : Nat} {n : Int} {z : X} (h : shrH j c n = some z) : OB D.at_ .shr (.sym (j + 1) c) (.int k' n) z := by
  obtain ⟨m1, m2⟩ := mod65536 (D.dr (j + 1))
  unfold shrH at h
  rcases cond_some2 h with ⟨hc, h⟩ | ⟨_, h⟩
  · have hc := beq_eq hc; subst hc
    obtain ⟨hn, rfl⟩ := b2_some h
    have hn := of_decide_eq_true hn; subst hn
    exact ob_of (a := mx4 (D.dr (j + 1))) rfl (ib_shr (by decide)) fun σ => symd rfl σ
  · obtain ⟨hh, h⟩ := cond_some h
    obtain ⟨hc, h4, hp⟩ := hnd_ok hh
    rcases cond_some2 h with ⟨hn, h⟩ | ⟨_, h⟩
    · cases h
      have hn := of_decide_eq_true hn; subst hn
      refine ob_of (dv81 hc h4) (ib_shr (by decide)) fun σ => symd ?_ σ
      rw [dv82 (by omega) (by omega)]
      unfold hvI
      rw [show (18 : Int).toNat = 18 from rfl, Int.fdiv_eq_ediv_of_nonneg _ (by decide)]
      congr 1
      omega
    · obtain ⟨hn, rfl⟩ := b2_some h
      have hn := of_decide_eq_true hn; subst hn
      refine ob_of (dv81 hc h4) (ib_shr (by decide)) fun σ => symd ?_ σ
      rw [dv83 (by omega) (by omega)]
      unfold hvI
      rw [show (2 : Int).toNat = 2 from rfl, Int.fdiv_eq_ediv_of_nonneg _ (by decide)]
      congr 1
      omega
theorem cmp_ok {op : BinOp} {j c : Nat} {n m : Int} {b : Bool} {z : X} (h : cond (hnd c) (b2 (decide (n = m)) (.bool b)) none = some z) (hb : ∀ p : Nat, p < 60000 → intBin op .i64 (hvI (D.dr (j + 1)) p) .i64 m = some (.bool b)) : OB D.at_ op (.sym (j + 1) c) (.int .i64 n) z := by
  obtain ⟨hh, h⟩ := cond_some h
  obtain ⟨hc, h4, hp⟩ := hnd_ok hh
  obtain ⟨hn, rfl⟩ := b2_some h
  have hn := of_decide_eq_true hn; subst hn
  exact ob_of (dv81 hc h4) (hb _ (by omega)) fun σ => den_bool.2 rfl
theorem binI64_ok (hD : DrOk D) {op : BinOp} {j c : Nat} {n : Int} {z : X} (h : binI64 D op j c n = some z) : OB D.at_ op (.sym (j + 1) c) (.int .i64 n) z := by
  obtain ⟨m1, m2⟩ := mod65536 (D.dr (j + 1))
  have hext : ∀ op, cond (Nat.beq c 0) ((D.ext op (j + 1) n).map fun i => X.sym i 0) none = some z → OB D.at_ op (.sym (j + 1) c) (.int .i64 n) z := by
    intro op h
    obtain ⟨hc, h⟩ := cond_some h
    have hc := beq_eq hc; subst hc
    obtain ⟨i, hi, rfl⟩ := Option.map_eq_some_iff.1 h
    obtain ⟨h0, h1⟩ := hD.ext _ _ _ _ hi
    refine ob_of (a := D.dr (j + 1)) rfl h1 fun σ => ?_
    rw [den_sym]
    unfold Dr.at_
    rw [if_neg h0]; rfl
  have lt : ∀ p : Nat, p < 60000 → 0 < hvI (D.dr (j + 1)) p ∧ hvI (D.dr (j + 1)) p < 68719476736 := fun p hp => by unfold hvI; omega
  unfold binI64 at h
  cases op
  case and => exact andH_ok h
  case shl => exact shlH_ok h
  case or => exact orD_ok h
  case shr => exact shrH_ok h
  case lss => exact cmp_ok h fun p hp => by have := lt p hp; simp [intBin]; omega
  case geq => exact cmp_ok h fun p hp => by have := lt p hp; simp [intBin]; omega
  case eql => exact cmp_ok h fun p hp => by have := lt p hp; simp [intBin]; omega
  case neq => exact cmp_ok h fun p hp => by have := lt p hp; simp [intBin]; omega
  all_goals exact hext _ h
theorem u64_of {op : BinOp} {j c : Nat} {a n : Int} {z : X} {v : Value} (h1 : dvV (D.dr (j + 1)) c = .int .u64 a) (h2 : intBin op .u64 a .u64 n = some v) (h3 : ∀ σ, den D.at_ σ z = some v) : OB D.at_ op (.sym (j + 1) c) (.int .u64 n) z :=
  fun σ => ⟨_, a, _, n, v, by rw [den_sym, at_s, h1], den_int.2 rfl, h2, h3 σ⟩
theorem binU64_ok {op : BinOp} {j c : Nat} {n : Int} {z : X} (h : binU64 op j c n = some z) : OB D.at_ op (.sym (j + 1) c) (.int .u64 n) z := by
  unfold binU64 at h
  split at h
  · obtain ⟨hc, h⟩ := cond_some h
    obtain ⟨hn, rfl⟩ := b2_some h
    have hc := beq_eq hc; subst hc
    have hn := of_decide_eq_true hn; subst hn
    exact u64_of (a := mx1 (D.dr (j + 1))) rfl (by simp [intBin]; rfl) fun σ => symd rfl σ
  · obtain ⟨hc, h⟩ := cond_some h
    obtain ⟨hn, rfl⟩ := b2_some h
    have hc := beq_eq hc; subst hc
    have hn := of_decide_eq_true hn; subst hn
    exact u64_of (a := mx2 (D.dr (j + 1))) rfl (by simp [intBin]; rfl) fun σ => symd rfl σ
  · exact shlH_ok h
  · exact shrH_ok h
  · cases h
theorem eqSS_ok {neg : Bool} {i c j e : Nat} {z : X} (h : eqSS neg i c j e = some z) : OB D.at_ (cond neg .neq .eql) (.sym (i + 1) c) (.sym (j + 1) e) z := by
  obtain ⟨m1, m2⟩ := mod65536 (D.dr (i + 1))
  obtain ⟨m3, m4⟩ := mod65536 (D.dr (j + 1))
  unfold eqSS at h
  obtain ⟨h1, h⟩ := cond_some h
  obtain ⟨h2, h⟩ := cond_some h
  obtain ⟨c1, c2, c3⟩ := hnd_ok h1
  obtain ⟨e1, e2, e3⟩ := hnd_ok h2
  intro σ
  have fin : ∀ b : Bool, decide (hvI (D.dr (i + 1)) (c / 4 - 2) = hvI (D.dr (j + 1)) (e / 4 - 2)) = b → intBin (cond neg .neq .eql) .i64 (hvI (D.dr (i + 1)) (c / 4 - 2)) .i64 (hvI (D.dr (j + 1)) (e / 4 - 2)) = some (.bool (cond neg (!b) b)) := by
    rintro b rfl
    cases neg
    · simp [intBin]; rfl
    · simp [intBin, bne]; rfl
  refine ⟨_, _, _, _, .bool (cond neg (!(Nat.beq c e)) (Nat.beq c e)), by rw [den_sym, at_s, dv81 c1 c2], by rw [den_sym, at_s, dv81 e1 e2], ?_, ?_⟩
  · refine fin _ ?_
    rcases cond_some2 h with ⟨he, h⟩ | ⟨he, h⟩
    · obtain ⟨hij, _⟩ := b2_some h
      rw [beq_eq he, beq_eq hij]
      have : Nat.beq e e = true := by simp
      rw [this]
      simp
    · rw [he]
      have hne := beq_ne he
      have : hvI (D.dr (i + 1)) (c / 4 - 2) ≠ hvI (D.dr (j + 1)) (e / 4 - 2) := by unfold hvI; omega
      simpa using this
  · rcases cond_some2 h with ⟨he, h⟩ | ⟨he, h⟩
    · obtain ⟨hij, rfl⟩ := b2_some h
      rw [he]
      cases neg <;> exact den_bool.2 rfl
    · cases h
      rw [he]
      cases neg <;> exact den_bool.2 rfl
theorem binH_ok (hD : DrOk D) {op : BinOp} {x y z : X} (h : binH D op x y = some z) : OB D.at_ op x y z := by
  unfold binH at h
  split at h
  · rename_i z' hz
    cases h
    exact hD.exb _ _ _ _ hz
  · unfold binH0 at h
    split at h
    · exact binI64_ok hD h
    · exact binU64_ok h
    · split at h
      · exact eqSS_ok (neg := false) h
      · exact eqSS_ok (neg := true) h
      · cases h
    · cases h
theorem convH_ok (hD : DrOk D) {k : IntKind} {x z : X} (h : convH D k x = some z) : ∀ σ : Sg, ∃ va v, den D.at_ σ x = some va ∧ den D.at_ σ z = some v ∧ ∀ (w : World) (K : Value → WP), K v w → ConvI k va K w := by
  intro σ
  unfold convH at h
  split at h
  · rename_i j c
    replace h := cond_some2 h
    rcases h with ⟨hc, h⟩ | ⟨_, h⟩
    · have hc := beq_eq hc; subst hc
      replace h := cond_some2 h
      rcases h with ⟨hk, h⟩ | ⟨_, h⟩
      · cases h
        have hk := of_decide_eq_true hk; subst hk
        exact ⟨.int .i64 (D.dr (j + 1)), .int .u64 (mx1 (D.dr (j + 1))), symd rfl σ, symd rfl σ, fun w K k => k⟩
      · replace h := cond_some h
        obtain ⟨hk, h⟩ := h
        cases h
        have hk := of_decide_eq_true hk; subst hk
        refine ⟨.int .i64 (D.dr (j + 1)), .int .i64 (D.dr (j + 1)), symd rfl σ, symd rfl σ, fun w K k => ?_⟩
        show K (.int .i64 (IntKind.i64.wrap (D.dr (j + 1)))) w
        rw [(hD.i64 (j + 1)).w]
        exact k
    · replace h := cond_some h
      obtain ⟨hc, h⟩ := h
      have hc := beq_eq hc; subst hc
      replace h := cond_some h
      obtain ⟨hk, h⟩ := h
      have hk := of_decide_eq_true hk; subst hk
      obtain ⟨i, hi, rfl⟩ := Option.map_eq_some_iff.1 h
      obtain ⟨h1, h0⟩ := hD.nx _ _ hi
      refine ⟨.int .u64 (mx5 (D.dr (j + 1))), .int .i64 (D.dr i), symd rfl σ, ?_, fun w K k => ?_⟩
      · rw [den_sym]; unfold Dr.at_; rw [if_neg h0]; rfl
      · show K (.int .i64 (IntKind.i64.wrap (mx5 (D.dr (j + 1))))) w
        rw [h1] at k
        exact k
  · cases h
theorem at_one (hD : DrOk D) (j c : Nat) : (D.at_ j c).oneCell' = true := by
  unfold Dr.at_
  split
  · exact hD.ex1 c
  · exact dvV_one _ _
/-- Global variables, and unknown numbers. -/
def gvD (gl : Nat → Option (List X)) (D : Dr) : Gv := ⟨gl, binH D, convH D, D.mm⟩
theorem gvD_ok (hD : DrOk D) {gl : Nat → Option (List X)} {w0 : World} {F : List HP} (h : ∀ w L, Go.Jac.D w0 (L ++ F) w → ∀ g cs, gl g = some cs → ∃ vs, (∀ σ, DL D.at_ σ cs vs) ∧ ∀ j v, vs[j]? = some v → w.cell? ⟨g, j, none⟩ = some v) : GLok D.at_ (gvD gl D) w0 F :=
  ⟨h, fun op x y z hz σ => by
    obtain ⟨k, a, k', b, v, e1, e2, e3, e4⟩ := binH_ok hD hz σ
    exact ⟨_, _, v, e1, e2, e4, fun w K kk => ⟨k, a, k', b, v, rfl, rfl, e3, kk⟩⟩, fun k x z hz σ => convH_ok hD hz σ, fun mx x y z hz σ => hD.mm mx x y z hz σ⟩
end
end Go.Jac
