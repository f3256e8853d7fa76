/- What reads is right: the rest; all of it. -/
import Derived.Test.YtcdkbkgpgemfgaaGreatDoorKd
set_option maxRecDepth 100000
namespace Go.Jac
open Go

section
variable {AT : Nat → Nat → Value} {P : Program} {GL : Gv} {σ : Sg} {w0 w : World} {F : List HP} {S : XS} {x : X} {K : Value → WP}
theorem strEq_ok (a b : ByteArray) : strEq a b = (a.toList == b.toList) := by
  unfold strEq
  rw [bytesEq_eq, ByteArray.toList_eq, ByteArray.toList_eq]
theorem streqV {t : TypeId} {ox oy : Operand} {a b : ByteArray} (neg : Bool) (k : K (.bool (cond neg (!(strEq a b)) (strEq a b))) w) : BinX P (cond neg .neq .eql) t ox oy (.string a) (.string b) K w := by
  cases neg
  · have hg : (eqGuard .eql t ox oy (.string a) (.string b)).run P w = .ok () w := by unfold eqGuard; rfl
    refine ⟨_, w, ?_, k⟩
    rw [Sem.run_bind]
    simp only [cond_false]
    rw [hg, binOp_string_eql, strEq_ok]; rfl
  · have hg : (eqGuard .neq t ox oy (.string a) (.string b)).run P w = .ok () w := by unfold eqGuard; rfl
    refine ⟨_, w, ?_, k⟩
    rw [Sem.run_bind]
    simp only [cond_true]
    rw [hg, binOp_string_neq, strEq_ok]; rfl
/-- Is it nil? -/
def nilV : Value → Option Bool
  | .slice a _ _ => some a.isNone
  | .map a => some a.isNone
  | _ => none
theorem nilS_x {a : X} {c : Bool} {v : Value} (h : isNilS a = some c) (hv : den AT σ a = some v) : ∃ p n m, v = .slice p n m ∧ p.isNone = c := by
  unfold isNilS at h
  split at h <;> cases h
  · cases den_lit.1 hv; exact ⟨_, _, _, rfl, rfl⟩
  · obtain ⟨_, g, _, rfl⟩ := den_sl.1 hv; exact ⟨_, _, _, rfl, rfl⟩
  · obtain ⟨g, _, _, rfl⟩ := den_so.1 hv; exact ⟨_, _, _, rfl, rfl⟩
  · obtain ⟨g, _, _, rfl⟩ := den_se.1 hv; exact ⟨_, _, _, rfl, rfl⟩
theorem nilM_x {a : X} {c : Bool} {v : Value} (h : isNilM a = some c) (hv : den AT σ a = some v) : ∃ p, v = .map p ∧ p.isNone = c := by
  unfold isNilM at h
  split at h <;> cases h
  · cases den_lit.1 hv; exact ⟨_, rfl, rfl⟩
  · obtain ⟨g, _, rfl⟩ := den_mp.1 hv; exact ⟨_, rfl, rfl⟩
theorem slnilV {t e : TypeId} {a b : Option Addr} {n c m d : Nat} {ox oy : Operand} (neg : Bool) (ht : P.underlying t = some (.slice e)) (hn : (a.isNone || b.isNone) = true) (k : K (.bool (cond neg (!(a.isNone && b.isNone)) (a.isNone && b.isNone))) w) : BinX P (cond neg .neq .eql) t ox oy (.slice a n c) (.slice b m d) K w := by
  have he : (Op.equal t (.slice a n c) (.slice b m d)).run P w = .ok (a.isNone && b.isNone) w := by
    unfold Op.equal Op.maxDepth Op.equalIn
    simp only [Sem.run_bind, run_underlying ht, Result.andThen_ok]
    cases a <;> cases b <;> first | rfl | (simp at hn)
  cases neg
  · refine ⟨_, w, ?_, k⟩
    rw [Sem.run_bind]
    have hg : (eqGuard (cond false .neq .eql) t ox oy (.slice a n c) (.slice b m d)).run P w = .ok () w := by unfold eqGuard; rfl
    rw [hg]
    simp only [Result.andThen_ok, cond_false]
    unfold binOp
    simp only [Sem.run_bind, he, Result.andThen_ok, Sem.run_pure]
  · refine ⟨_, w, ?_, k⟩
    rw [Sem.run_bind]
    have hg : (eqGuard (cond true .neq .eql) t ox oy (.slice a n c) (.slice b m d)).run P w = .ok () w := by unfold eqGuard; rfl
    rw [hg]
    simp only [Result.andThen_ok, cond_true]
    unfold binOp
    simp only [Sem.run_bind, he, Result.andThen_ok, Sem.run_pure]
theorem mapnilV {t kt et : TypeId} {a b : Option Nat} {ox oy : Operand} (neg : Bool) (ht : P.underlying t = some (.map kt et)) (hn : (a.isNone || b.isNone) = true) (k : K (.bool (cond neg (!(a.isNone && b.isNone)) (a.isNone && b.isNone))) w) : BinX P (cond neg .neq .eql) t ox oy (.map a) (.map b) K w := by
  have he : (Op.equal t (.map a) (.map b)).run P w = .ok (a.isNone && b.isNone) w := by
    unfold Op.equal Op.maxDepth Op.equalIn
    simp only [Sem.run_bind, run_underlying ht, Result.andThen_ok]
    cases a <;> cases b <;> first | rfl | (simp at hn)
  cases neg
  · refine ⟨_, w, ?_, k⟩
    rw [Sem.run_bind]
    have hg : (eqGuard (cond false .neq .eql) t ox oy (.map a) (.map b)).run P w = .ok () w := by unfold eqGuard; rfl
    rw [hg]
    simp only [Result.andThen_ok, cond_false]
    unfold binOp
    simp only [Sem.run_bind, he, Result.andThen_ok, Sem.run_pure]
  · refine ⟨_, w, ?_, k⟩
    rw [Sem.run_bind]
    have hg : (eqGuard (cond true .neq .eql) t ox oy (.map a) (.map b)).run P w = .ok () w := by unfold eqGuard; rfl
    rw [hg]
    simp only [Result.andThen_ok, cond_true]
    unfold binOp
    simp only [Sem.run_bind, he, Result.andThen_ok, Sem.run_pure]
theorem nilEq_out {neg : Bool} {a b : Option Bool} (h : xNilEq neg a b = .ok x) : ∃ p q, a = some p ∧ b = some q ∧ (p || q) = true ∧ x = .bool (cond neg (!(p && q)) (p && q)) := by
  unfold xNilEq at h
  split at h
  · obtain ⟨h1, h2⟩ := need_ok h
    cases h2
    exact ⟨_, _, rfl, rfl, h1, rfl⟩
  · cases h
theorem eq_x {neg : Bool} {t : TypeId} {ox oy : Operand} {a b : X} {va vb : Value} (h : xEq P neg t a b = .ok x) (ha : den AT σ a = some va) (hb : den AT σ b = some vb) : ∃ v, den AT σ x = some v ∧ ∀ K : Value → WP, K v w → eqV P (cond neg .neq .eql) t ox oy va vb K w := by
  unfold xEq at h
  split at h
  · rename_i hu
    obtain ⟨v, h1, h2⟩ := eqB_x (w := w) h ha hb
    refine ⟨v, h1, fun K k => ?_⟩
    unfold eqV; cases neg <;> (simp only [cond_true, cond_false]; rw [hu]; exact h2 K k)
  · rename_i e hu
    split at h
    · rename_i i hi
      cases hz : Nat.beq i.size 0 with
      | true => rw [hz] at h; cases h
      | false =>
        rw [hz] at h
        obtain ⟨v, h1, h2⟩ := eqP_x (w := w) h ha hb
        refine ⟨v, h1, fun K k => ?_⟩
        unfold eqV; cases neg <;> (simp only [cond_true, cond_false]; rw [hu]; dsimp only; rw [hi]; dsimp only; rw [hz]; exact h2 K k)
    · cases h
  · rename_i fs hu
    cases hz : flatS P t fs with
    | false => rw [hz] at h; cases h
    | true =>
      rw [hz] at h
      obtain ⟨v, h1, h2⟩ := eqS_x (w := w) h ha hb
      refine ⟨v, h1, fun K k => ?_⟩
      unfold eqV; cases neg <;> (simp only [cond_true, cond_false]; rw [hu]; dsimp only; rw [hz]; exact h2 K k)
  · rename_i hu
    split at h
    · cases h
      cases den_lit.1 ha
      cases den_lit.1 hb
      refine ⟨_, den_bool.2 rfl, fun K k => ?_⟩
      have := streqV (P := P) (t := t) (ox := ox) (oy := oy) neg k
      unfold eqV; cases neg <;> (simp only [cond_true, cond_false] at this ⊢; rw [hu]; exact this)
    · cases h
  · rename_i e hu
    obtain ⟨p, q, h1, h2, h3, rfl⟩ := nilEq_out h
    obtain ⟨a1, n1, m1, rfl, e1⟩ := nilS_x h1 ha
    obtain ⟨a2, n2, m2, rfl, e2⟩ := nilS_x h2 hb
    subst e1; subst e2
    refine ⟨_, den_bool.2 rfl, fun K k => ?_⟩
    have := slnilV (P := P) (t := t) (ox := ox) (oy := oy) (n := n1) (c := m1) (m := n2) (d := m2) neg hu h3 k
    unfold eqV; cases neg <;> (simp only [cond_true, cond_false] at this ⊢; rw [hu]; exact this)
  · rename_i kt et hu
    obtain ⟨p, q, h1, h2, h3, rfl⟩ := nilEq_out h
    obtain ⟨a1, rfl, e1⟩ := nilM_x h1 ha
    obtain ⟨a2, rfl, e2⟩ := nilM_x h2 hb
    subst e1; subst e2
    refine ⟨_, den_bool.2 rfl, fun K k => ?_⟩
    have := mapnilV (P := P) (t := t) (ox := ox) (oy := oy) neg hu h3 k
    unfold eqV; cases neg <;> (simp only [cond_true, cond_false] at this ⊢; rw [hu]; exact this)
  · cases h
theorem isX_xEq {neg : Bool} {t : TypeId} {a b : X} (h : xEq P neg t a b = .ok x) : isX a = true ∧ isX b = true := by
  unfold xEq at h
  split at h
  · unfold xEqB at h; split at h
    · exact ⟨rfl, rfl⟩
    · cases h
  · split at h
    · revert h; cases Nat.beq _ _ <;> intro h
      · simp only [cond_false] at h
        unfold xEqP at h
        split at h
        · rename_i h1 h2
          have key : ∀ {z : X} {c : Bool}, isNilP z = some c → isX z = true := by
            intro z c hz
            unfold isNilP at hz
            split at hz <;> first | rfl | cases hz
          exact ⟨key h1, key h2⟩
        · cases h
      · cases h
    · cases h
  · revert h; cases flatS P _ _ <;> intro h
    · cases h
    · simp only [cond_true] at h
      unfold xEqS at h
      split at h
      · exact ⟨rfl, rfl⟩
      · cases h
  · split at h
    · exact ⟨rfl, rfl⟩
    · cases h
  · obtain ⟨p, q, h1, h2, _, _⟩ := nilEq_out h
    have key : ∀ {z : X} {c : Bool}, isNilS z = some c → isX z = true := by
      intro z c hz
      unfold isNilS at hz
      split at hz <;> first | rfl | cases hz
    exact ⟨key h1, key h2⟩
  · obtain ⟨p, q, h1, h2, _, _⟩ := nilEq_out h
    have key : ∀ {z : X} {c : Bool}, isNilM z = some c → isX z = true := by
      intro z c hz
      unfold isNilM at hz
      split at hz <;> first | rfl | cases hz
    exact ⟨key h1, key h2⟩
  · cases h
def binV (P : Program) (op : BinOp) (t : TypeId) (ox oy : Operand) (a b : Value) (K : Value → WP) : WP := match P.underlying t with
    | some (.int _) => BinI op a b K
    | _ => eqV P op t ox oy a b K
theorem bin_x (hG : GLok AT GL w0 F) {op : BinOp} {t : TypeId} {ox oy : Operand} {E : XE} {ρ : Env} (he : EnvR AT σ E ρ) (h : xBin P GL op t (opX E ox) (opX E oy) = .ok x) : ∃ v, den AT σ x = some v ∧ ∀ K : Value → WP, K v w → binV P op t ox oy (ev ρ ox) (ev ρ oy) K w := by
  unfold xBin at h
  unfold binV
  split at h
  · rename_i hu
    obtain ⟨va, vb, v, h1, h2, h3, h4⟩ := binI_x (w := w) (σ := σ) hG h
    have e1 := op_den he (isX_of h1)
    have e2 := op_den he (isX_of h2)
    rw [h1] at e1; cases e1
    rw [h2] at e2; cases e2
    refine ⟨v, h3, fun K k => ?_⟩
    rw [hu]; exact h4 K k
  · rename_i hno
    have key : ∀ neg, xEq P neg t (opX E ox) (opX E oy) = .ok x → ∃ v, den AT σ x = some v ∧ ∀ K : Value → WP, K v w → eqV P (cond neg .neq .eql) t ox oy (ev ρ ox) (ev ρ oy) K w := by
      intro neg hh
      obtain ⟨i1, i2⟩ := isX_xEq hh
      exact eq_x hh (op_den he i1) (op_den he i2)
    have pass : ∀ (A : WP), A w → (∀ B : WP, (match P.underlying t with | some (.int _) => B | _ => A) w) := by
      intro A hA B
      cases hu : P.underlying t with
      | none => exact hA
      | some d => cases d <;> first | exact hA | exact absurd hu (hno _)
    split at h
    · obtain ⟨v, h1, h2⟩ := key false h
      exact ⟨v, h1, fun K k => pass _ (h2 K k) _⟩
    · obtain ⟨v, h1, h2⟩ := key true h
      exact ⟨v, h1, fun K k => pass _ (h2 K k) _⟩
    · cases h
theorem un_x {op : UnOp} {a : X} (h : xUn op a = .ok x) : ∃ va v, den AT σ a = some va ∧ den AT σ x = some v ∧ ∀ K : Value → WP, K v w → Un op va K w := by
  unfold xUn at h
  split at h <;> cases h
  · exact ⟨_, _, den_bool.2 rfl, den_bool.2 rfl, fun K k => by rw [Un_not]; exact k⟩
  · exact ⟨_, _, den_int.2 rfl, den_int.2 rfl, fun K k => by rw [Un_neg]; exact k⟩
def convV (P : Program) (src dst : TypeId) (a : Value) (K : Value → WP) : WP := match P.underlying src, P.underlying dst with
    | some (.int _), some (.int k) => ConvI k a K
    | _, _ => Ex P (convert src dst a) K
theorem conv_x (hG : GLok AT GL w0 F) {src dst : TypeId} {a : X} (h : xConv P GL src dst a = .ok x) : ∃ va v, den AT σ a = some va ∧ den AT σ x = some v ∧ ∀ K : Value → WP, K v w → convV P src dst va K w := by
  unfold xConv at h
  unfold convV
  split at h
  · rename_i h1 h2
    split at h
    · cases h
      exact ⟨_, _, den_int.2 rfl, den_int.2 rfl, fun K k => by rw [h1, h2]; exact k⟩
    · obtain ⟨va, v, e1, e2, e3⟩ := hG.conv _ _ _ (R.of_ok h) σ
      exact ⟨va, v, e1, e2, fun K k => by rw [h1, h2]; exact e3 w K k⟩
  · cases h
theorem bound_x {hi : Option X} {d n : Nat} (h : xBound hi d = .ok n) : (hi = none ∧ n = d) ∨ ∃ k, hi = some (.int k (n : Int)) := by
  unfold xBound at h
  split at h
  · cases h; exact .inl ⟨rfl, rfl⟩
  · split at h
    · cases h; exact .inr ⟨_, rfl⟩
    · cases h
  · cases h
/-- Bounds of a slice: X's and the values'. -/
def bdV (σ : Sg) (AT : Nat → Nat → Value) : Option X → Option Value → Prop
  | none, none => True
  | some x, some v => isX x = true → den AT σ x = some v
  | _, _ => False
theorem bd_op {E : XE} {ρ : Env} (he : EnvR AT σ E ρ) (o : Option Operand) : bdV σ AT (o.map (opX E)) (o.map (ev ρ)) := by
  cases o with
  | none => trivial
  | some o => exact fun h => op_den he h
theorem bd_out {hi : Option X} {hv : Option Value} {d n : Nat} (hb : bdV σ AT hi hv) (h : xBound hi d = .ok n) : (hv = none ∧ n = d) ∨ ∃ k, hv = some (.int k (n : Int)) := by
  rcases bound_x h with ⟨rfl, rfl⟩ | ⟨k, rfl⟩
  · cases hv with
    | none => exact .inl ⟨rfl, rfl⟩
    | some v => exact hb.elim
  · cases hv with
    | none => exact hb.elim
    | some v =>
      have := hb rfl
      cases den_int.1 this
      exact .inr ⟨k, rfl⟩
theorem slc_of {size len cap l h : Nat} {a : Option Addr} {lo hi : Option Value} (hh : (hi = none ∧ h = len) ∨ ∃ k, hi = some (.int k (h : Int))) (hl : (lo = none ∧ l = 0) ∨ ∃ k, lo = some (.int k (l : Int))) (h1 : h ≤ cap) (h2 : l ≤ h)
    (k : K (.slice (if cap = l then a else a.map (·.add (l * size))) (h - l) (cap - l)) w) : SlC size (.slice a len cap) lo hi K w := by
  refine ⟨a, len, cap, l, h, rfl, ?_, ?_, k⟩
  · rcases hh with ⟨rfl, rfl⟩ | ⟨k, rfl⟩
    · rfl
    · exact ⟨k, _, rfl, by omega, by omega, by simp⟩
  · rcases hl with ⟨rfl, rfl⟩ | ⟨k, rfl⟩
    · rfl
    · exact ⟨k, _, rfl, by omega, by omega, by simp⟩
theorem sl_x {size : Nat} {a : X} {lo hi : Option X} {lv hv : Option Value} (hl : bdV σ AT lo lv) (hh : bdV σ AT hi hv) {va : Value} (ha : den AT σ a = some va) (h : xSl size a lo hi = .ok x) : ∃ v, den AT σ x = some v ∧ ∀ K : Value → WP, K v w → SlC size va lv hv K w := by
  unfold xSl at h
  split at h
  · obtain ⟨m, e1, h⟩ := R.bind_ok h
    obtain ⟨l, e2, h⟩ := R.bind_ok h
    obtain ⟨e3, h⟩ := need_ok h
    obtain ⟨e4, h⟩ := need_ok h
    cases h
    cases den_lit.1 ha
    have := beq_eq e3; have := beq_eq e4
    subst m; subst l
    exact ⟨_, den_lit.2 rfl, fun K k => slc_of (h := 0) (l := 0) (bd_out hh e1) (bd_out hl e2) (Nat.le_refl _) (Nat.le_refl _) k⟩
  · rename_i b o len cap
    obtain ⟨m, e1, h⟩ := R.bind_ok h
    obtain ⟨l, e2, h⟩ := R.bind_ok h
    obtain ⟨e3, h⟩ := need_ok h
    obtain ⟨e4, h⟩ := need_ok h
    cases h
    obtain ⟨hle, g, hg, rfl⟩ := den_sl.1 ha
    have e3 := ble_le e3; have e4 := ble_le e4
    refine ⟨_, den_sl.2 ⟨by omega, g, hg, rfl⟩, fun K k => slc_of (bd_out hh e1) (bd_out hl e2) e3 e4 ?_⟩
    cases hc : Nat.beq cap l with
    | true =>
      rw [hc] at k
      rw [if_pos (beq_eq hc)]
      exact k
    | false =>
      rw [hc] at k
      rw [if_neg (beq_ne hc)]
      simp only [Option.map_some, add_of, cond_false, Nat.add_assoc] at k ⊢
      exact k
  · rename_i b o len kk
    obtain ⟨m, e1, h⟩ := R.bind_ok h
    obtain ⟨l, e2, h⟩ := R.bind_ok h
    obtain ⟨e3, h⟩ := need_ok h
    obtain ⟨e4, h⟩ := need_ok h
    obtain ⟨g, hg, hle, rfl⟩ := den_so.1 ha
    have e3 := ble_le e3; have e4 := ble_le e4
    cases hz : Nat.beq l 0 with
    | true =>
      rw [hz] at h
      cases h
      have hz := beq_eq hz
      refine ⟨_, den_so.2 ⟨g, hg, by omega, rfl⟩, fun K k => slc_of (bd_out hh e1) (bd_out hl e2) (by omega) e4 ?_⟩
      subst hz
      have : (if g.cap - kk = 0 then some (⟨g.ad, g.base + o, none⟩ : Addr) else (some (⟨g.ad, g.base + o, none⟩ : Addr)).map (·.add (0 * size))) = some ⟨g.ad, g.base + o, none⟩ := by
        split
        · rfl
        · simp [Addr.add]
      rw [this, Nat.sub_zero, Nat.sub_zero]
      exact k
    | false =>
      rw [hz] at h
      simp only [cond_false] at h
      cases hlt : Nat.blt l len with
      | true =>
        rw [hlt] at h
        cases h
        have hlt := blt_lt hlt
        refine ⟨_, den_so.2 ⟨g, hg, by omega, rfl⟩, fun K k => slc_of (bd_out hh e1) (bd_out hl e2) (by omega) e4 ?_⟩
        rw [if_neg (by omega)]
        simp only [Option.map_some, add_of]
        rw [show g.cap - kk - l = g.cap - (kk + l) from by omega, Nat.add_assoc]
        exact k
      | false =>
        rw [hlt] at h
        cases h
        have hge : ¬ l < len := fun hc => by
          have : Nat.blt l len = true := by simp [Nat.blt]; omega
          rw [this] at hlt; cases hlt
        have : l = len := by omega
        subst this
        have hm : m - l = 0 := by omega
        refine ⟨_, den_se.2 ⟨g, hg, by omega, rfl⟩, fun K k => slc_of (bd_out hh e1) (bd_out hl e2) (by omega) e4 ?_⟩
        rw [hm, show g.cap - kk - l = g.cap - (kk + l) from by omega]
        by_cases hc : g.cap = kk + l
        · rw [if_pos (by omega)]
          rw [if_pos hc] at k
          exact k
        · rw [if_neg (by omega)]
          rw [if_neg hc] at k
          simp only [Option.map_some, add_of]
          rw [Nat.add_assoc]
          exact k
  · rename_i b o1 o2 kk
    obtain ⟨m, e1, h⟩ := R.bind_ok h
    obtain ⟨l, e2, h⟩ := R.bind_ok h
    obtain ⟨e3, h⟩ := need_ok h
    obtain ⟨e4, h⟩ := need_ok h
    cases h
    obtain ⟨g, hg, hle, rfl⟩ := den_se.1 ha
    have := beq_eq e3; have := beq_eq e4
    subst m; subst l
    refine ⟨_, den_se.2 ⟨g, hg, hle, rfl⟩, fun K k => slc_of (h := 0) (l := 0) (bd_out hh e1) (bd_out hl e2) (by omega) (by omega) ?_⟩
    have : ∀ (p : Addr), (if g.cap - kk = 0 then some p else (some p).map (·.add (0 * size))) = some p := by
      intro p
      split
      · rfl
      · simp [Addr.add]
    rw [this]
    exact k
  · cases h
theorem run_sl3V {t e : TypeId} {a : Option Addr} {len cap l h m : Nat} {lo : Option Value} (ht : P.underlying t = some (.slice e)) {i : TypeInfo} (hi : P.info? e = some i) (hlo : (lo = none ∧ l = 0) ∨ ∃ k, lo = some (.int k (l : Int))) {k2 k3 : IntKind} (h1 : l ≤ h) (h2 : h ≤ m) (h3 : m ≤ cap)
    (k : K (.slice (if m = l then a else a.map (·.add (l * i.size))) (h - l) (m - l)) w) : Ex P (Instr.sliceAt t (.slice a len cap) lo (some (.int k2 (h : Int))) (some (.int k3 (m : Int)))) K w := by
  rcases hlo with ⟨rfl, rfl⟩ | ⟨k1, rfl⟩
  · refine ⟨_, _, ?_, k⟩
    have hb : (Instr.sliceBounds true len cap none (some (.int k2 (h : Int))) (some (.int k3 (m : Int)))).run P w = .ok (0, h, m) w := by
      have e3 : (h : Int) ≤ m := by omega
      have e4 : (m : Int) ≤ cap := by omega
      simp [Instr.sliceBounds, Instr.sliceBound, asIntOf, e3, e4, h2, h3]
    simp only [Instr.sliceAt, Instr.slice, Sem.run_bind, run_underlying ht, Result.andThen_ok, hb, run_sizeOf hi, Sem.run_pure]
  · exact run_sl3 ht hi (by omega) (by omega) (by omega) (by omega) (by simpa using k)
theorem sl3_x {t e : TypeId} (ht : P.underlying t = some (.slice e)) {i : TypeInfo} (hi : P.info? e = some i) {a : X} {l h m : Nat} {lo : Option Value} {k2 k3 : IntKind} {va : Value} (ha : den AT σ a = some va) (hlo : (lo = none ∧ l = 0) ∨ ∃ k, lo = some (.int k (l : Int)))
    (hx : xSl3 i.size a l h m = .ok x) : ∃ v, den AT σ x = some v ∧ ∀ K : Value → WP, K v w → Ex P (Instr.sliceAt t va lo (some (.int k2 (h : Int))) (some (.int k3 (m : Int)))) K w := by
  obtain ⟨e1, hx⟩ := need_ok hx
  obtain ⟨e2, hx⟩ := need_ok hx
  have e1 := ble_le e1; have e2 := ble_le e2
  split at hx
  · obtain ⟨e3, hx⟩ := need_ok hx
    cases hx
    cases den_lit.1 ha
    have e3 := beq_eq e3
    have : h = 0 := by omega
    have : l = 0 := by omega
    subst m; subst h; subst l
    exact ⟨_, den_lit.2 rfl, fun K k => run_sl3V (h := 0) (m := 0) ht hi hlo (Nat.le_refl _) (Nat.le_refl _) (Nat.le_refl _) k⟩
  · obtain ⟨e3, hx⟩ := need_ok hx
    cases hx
    obtain ⟨hle, g, hg, rfl⟩ := den_sl.1 ha
    have e3 := ble_le e3
    refine ⟨_, den_sl.2 ⟨by omega, g, hg, rfl⟩, fun K k => run_sl3V ht hi hlo e1 e2 e3 ?_⟩
    cases hc : Nat.beq m l with
    | true => rw [hc] at k; rw [if_pos (beq_eq hc)]; exact k
    | false =>
      rw [hc] at k
      rw [if_neg (beq_ne hc)]
      simp only [Option.map_some, add_of, cond_false, Nat.add_assoc] at k ⊢
      exact k
  · obtain ⟨e3, hx⟩ := need_ok hx
    cases hx
    obtain ⟨g, hg, hle, rfl⟩ := den_so.1 ha
    have e3 := ble_le e3
    refine ⟨_, den_sl.2 ⟨by omega, g, hg, rfl⟩, fun K k => run_sl3V ht hi hlo e1 e2 (by omega) ?_⟩
    cases hc : Nat.beq m l with
    | true => rw [hc] at k; rw [if_pos (beq_eq hc)]; exact k
    | false =>
      rw [hc] at k
      rw [if_neg (beq_ne hc)]
      simp only [Option.map_some, add_of, cond_false, Nat.add_assoc] at k ⊢
      exact k
  · cases hx
theorem isX_sl {size : Nat} {a : X} {lo hi : Option X} (h : xSl size a lo hi = .ok x) : isX a = true := by
  unfold xSl at h
  split at h <;> first | rfl | cases h
theorem isX_sl3 {size : Nat} {a : X} {l m n : Nat} (h : xSl3 size a l m n = .ok x) : isX a = true := by
  unfold xSl3 at h
  obtain ⟨_, h⟩ := need_ok h
  obtain ⟨_, h⟩ := need_ok h
  split at h <;> first | rfl | cases h
theorem slice_x {t : TypeId} {a : Operand} {lo hi mx : Option Operand} {E : XE} {ρ : Env} (he : EnvR AT σ E ρ) (h : xSlice P t (opX E a) (lo.map (opX E)) (hi.map (opX E)) (mx.map (opX E)) = .ok x) :
    ∃ v, den AT σ x = some v ∧ ∀ K : Value → WP, K v w → slcV P t (ev ρ a) (lo.map (ev ρ)) (hi.map (ev ρ)) (mx.map (ev ρ)) K w := by
  unfold xSlice at h
  unfold slcV
  split at h
  · rename_i e hu
    split at h
    · rename_i i hi'
      rw [hu]; dsimp only
      have bl := bd_op he lo
      have bh := bd_op he hi
      cases mx with
      | none =>
        simp only [Option.map_none] at h ⊢
        rw [hi']
        exact sl_x bl bh (op_den he (isX_sl h)) h
      | some mo =>
        simp only [Option.map_some] at h ⊢
        obtain ⟨m, e1, h⟩ := R.bind_ok h
        cases hi with
        | none => cases h
        | some ho =>
          simp only [Option.map_some] at h ⊢
          obtain ⟨hn, e2, h⟩ := R.bind_ok h
          obtain ⟨l, e3, h⟩ := R.bind_ok h
          rcases bd_out (bd_op he (some mo)) e1 with ⟨hc, _⟩ | ⟨k3, hc⟩
          · cases hc
          · rcases bd_out (bd_op he (some ho)) e2 with ⟨hc2, _⟩ | ⟨k2, hc2⟩
            · cases hc2
            · simp only [Option.map_some, Option.some.injEq] at hc hc2
              rw [hc, hc2]
              exact sl3_x hu hi' (op_den he (isX_sl3 h)) (bd_out bl e3) h
    · cases h
  · cases h
end
end Go.Jac
