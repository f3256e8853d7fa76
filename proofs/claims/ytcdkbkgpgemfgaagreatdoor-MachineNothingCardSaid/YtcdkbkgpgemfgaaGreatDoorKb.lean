/- What names stand for; memory that is known by names, as parts. -/
import Derived.Test.YtcdkbkgpgemfgaaGreatDoorSk
import Derived.Test.YtcdkbkgpgemfgaaGreatDoorKa
namespace Go.Jac
open Go
theorem Sat.perm {A B : List HP} (p : A.Perm B) : ∀ {h : Hp}, Sat A h → Sat B h := by
  induction p with
  | nil => exact fun s => s
  | cons x _ ih => exact fun s => s.under fun _ s => ih s
  | swap x y l => exact fun s => s.swap
  | trans _ _ ih1 ih2 => exact fun s => ih2 (ih1 s)
section
variable {α : Type} {f : α → HP} {M R : List α} {x : α} {w0 w : World} {L A B : List HP}
theorem D.perm (p : A.Perm B) (d : D w0 A w) : D w0 B w := ⟨d.1.perm p, d.2⟩
theorem D.take1 (h : M.Perm (x :: R)) (d : D w0 (sat (M.map f) :: L) w) : D w0 (f x :: sat (R.map f) :: L) w :=
  (D.close (d.opens.perm (((h.map f).append_right L).trans List.perm_middle.symm))).swap
theorem D.put1 (h : M.Perm (x :: R)) (d : D w0 (f x :: sat (R.map f) :: L) w) : D w0 (sat (M.map f) :: L) w :=
  D.close (d.swap.opens.perm (List.perm_middle.trans ((h.map f).append_right L).symm))
theorem D.nil_sat (d : D w0 L w) : D w0 (sat (([] : List α).map f) :: L) w := D.close (M := []) d
end
end Go.Jac
namespace Go.Jac
open Go

structure Gh where
  ad : Nat
  base : Nat
  cap : Nat
  lp : Option Loop
abbrev Sg := Nat → Option Gh
def Sg.le (σ τ : Sg) : Prop := ∀ n g, σ n = some g → τ n = some g
theorem Sg.le.refl (σ : Sg) : σ.le σ := fun _ _ h => h
theorem Sg.le.trans {a b c : Sg} (h : a.le b) (k : b.le c) : a.le c := fun n g e => k n g (h n g e)
def Sg.add (σ : Sg) (n : Nat) (g : Gh) : Sg := fun i => if i = n then some g else σ i
theorem Sg.add_at (σ : Sg) (n : Nat) (g : Gh) : σ.add n g n = some g := by simp [Sg.add]
theorem Sg.le_add {σ : Sg} {n : Nat} (g : Gh) (h : σ n = none) : σ.le (σ.add n g) := fun i x e => by
  unfold Sg.add
  split
  · rename_i hi; subst hi; rw [h] at e; cases e
  · exact e

section
variable (AT : Nat → Nat → Value)
mutual
def den (σ : Sg) : X → Option Value
  | .un => none
  | .no => none
  | .int k n => some (.int k n)
  | .bool b => some (.bool b)
  | .lit v => some v
  | .ptr b o => (σ b).map fun g => .pointer (some ⟨g.ad, g.base + o, none⟩)
  | .gp g o => some (.pointer (some ⟨g, o, none⟩))
  | .sl b o len cap => if len ≤ cap then (σ b).map fun g => .slice (some ⟨g.ad, g.base + o, none⟩) len cap else none
  | .so b o len k => (σ b).bind fun g => if len + k ≤ g.cap then some (.slice (some ⟨g.ad, g.base + o, none⟩) len (g.cap - k)) else none
  | .se b o1 o2 k => (σ b).bind fun g => if k ≤ g.cap then some (.slice (some ⟨g.ad, g.base + (if g.cap = k then o1 else o2), none⟩) 0 (g.cap - k)) else none
  | .mp b => (σ b).map fun g => .map (some g.ad)
  | .fn f a c => (denL σ a).bind fun xs => (denL σ c).map fun ys => .func f xs.toArray ys.toArray
  | .yld b => (σ b).map fun g => .func (.yield g.ad) #[] #[]
  | .agg xs => (denL σ xs).map fun vs => .agg vs.toArray
  | .tup xs => (denL σ xs).map fun vs => .tuple vs.toArray
  | .sym i c => some (AT i c)
  | .stp n => (σ n).map fun g => .int .i64 g.ad
def denL (σ : Sg) : List X → Option (List Value)
  | [] => some []
  | x :: r => (den σ x).bind fun v => (denL σ r).map fun vs => v :: vs
end
variable {AT : Nat → Nat → Value} {σ τ : Sg}
theorem denL_iff : ∀ {xs : List X} {vs : List Value}, denL AT σ xs = some vs ↔ xs.map (den AT σ) = vs.map some
  | [], vs => by cases vs <;> simp [denL]
  | x :: r, vs => by
    unfold denL
    cases hx : den AT σ x with
    | none => cases vs <;> simp [hx]
    | some v =>
      cases vs with
      | nil => cases hr : denL AT σ r <;> simp [hr]
      | cons u us =>
        have ih := denL_iff (xs := r) (vs := us)
        cases hr : denL AT σ r with
        | none =>
          rw [hr] at ih
          simp only [Option.bind_some, Option.map_none, List.map_cons, List.cons.injEq, false_iff, hx, not_and, reduceCtorEq]
          intro _ h
          have := ih.2 h
          cases this
        | some ws =>
          rw [hr] at ih
          simp only [Option.bind_some, Option.map_some, Option.some.injEq, List.cons.injEq, List.map_cons, hx]
          rw [← ih]
          simp
mutual
theorem den_mono (h : σ.le τ) : ∀ {x : X} {v : Value}, den AT σ x = some v → den AT τ x = some v
  | .un, v, e => by simp [den] at e
  | .no, v, e => by simp [den] at e
  | .int k n, v, e => by simpa [den] using e
  | .bool b, v, e => by simpa [den] using e
  | .lit _, v, e => by simpa [den] using e
  | .ptr b o, v, e => by
    cases hb : σ b with
    | none => simp [den, hb] at e
    | some g => simp only [den, hb, h b g hb, Option.map_some] at e ⊢; exact e
  | .gp g o, v, e => by simpa [den] using e
  | .sl b o len cap, v, e => by
    cases hb : σ b with
    | none => simp [den, hb] at e
    | some g => simp only [den, hb, h b g hb, Option.map_some] at e ⊢; exact e
  | .so b o len k, v, e => by
    cases hb : σ b with
    | none => simp [den, hb] at e
    | some g => simp only [den, hb, h b g hb, Option.bind_some] at e ⊢; exact e
  | .se b o1 o2 k, v, e => by
    cases hb : σ b with
    | none => simp [den, hb] at e
    | some g => simp only [den, hb, h b g hb, Option.bind_some] at e ⊢; exact e
  | .mp b, v, e => by
    cases hb : σ b with
    | none => simp [den, hb] at e
    | some g => simp only [den, hb, h b g hb, Option.map_some] at e ⊢; exact e
  | .fn f a c, v, e => by
    unfold den at e ⊢
    cases ha : denL AT σ a with
    | none => simp [ha] at e
    | some xs =>
      cases hc : denL AT σ c with
      | none => simp [ha, hc] at e
      | some ys => rw [denL_mono h ha, denL_mono h hc]; simpa [ha, hc] using e
  | .yld b, v, e => by
    cases hb : σ b with
    | none => simp [den, hb] at e
    | some g => simp only [den, hb, h b g hb, Option.map_some] at e ⊢; exact e
  | .agg xs, v, e => by
    unfold den at e ⊢
    cases ha : denL AT σ xs with
    | none => simp [ha] at e
    | some vs => rw [denL_mono h ha]; simpa [ha] using e
  | .tup xs, v, e => by
    unfold den at e ⊢
    cases ha : denL AT σ xs with
    | none => simp [ha] at e
    | some vs => rw [denL_mono h ha]; simpa [ha] using e
  | .sym i c, v, e => by simpa [den] using e
  | .stp b, v, e => by
    cases hb : σ b with
    | none => simp [den, hb] at e
    | some g => simp only [den, hb, h b g hb, Option.map_some] at e ⊢; exact e
theorem denL_mono (h : σ.le τ) : ∀ {xs : List X} {vs : List Value}, denL AT σ xs = some vs → denL AT τ xs = some vs
  | [], vs, e => by simpa [denL] using e
  | x :: r, vs, e => by
    unfold denL at e ⊢
    cases hx : den AT σ x with
    | none => simp [hx] at e
    | some v =>
      cases hr : denL AT σ r with
      | none => simp [hx, hr] at e
      | some us => rw [den_mono h hx, denL_mono h hr]; simpa [hx, hr] using e
end

/-! ### Lists of cells -/
abbrev DL (AT : Nat → Nat → Value) (σ : Sg) (xs : List X) (vs : List Value) : Prop := xs.map (den AT σ) = vs.map some
theorem DL.mono (h : σ.le τ) {xs : List X} {vs : List Value} (e : DL AT σ xs vs) : DL AT τ xs vs := denL_iff.1 (denL_mono h (denL_iff.2 e))
theorem DL.len {xs : List X} {vs : List Value} (e : DL AT σ xs vs) : xs.length = vs.length := by simpa using congrArg List.length e
theorem DL.uniq {xs : List X} {vs us : List Value} (e : DL AT σ xs vs) (f : DL AT σ xs us) : vs = us := by
  have h := e.symm.trans f
  exact (List.map_inj_right (f := some) (fun _ _ h => Option.some.inj h)).1 h
theorem DL.get {xs : List X} {vs : List Value} (e : DL AT σ xs vs) {i : Nat} {x : X} (h : xs[i]? = some x) : ∃ v, vs[i]? = some v ∧ den AT σ x = some v := by
  have := congrArg (·[i]?) e
  simp only [List.getElem?_map, h, Option.map_some] at this
  cases hv : vs[i]? with
  | none => rw [hv] at this; cases this
  | some v => rw [hv] at this; exact ⟨v, rfl, Option.some.inj this⟩
theorem DL.get' {xs : List X} {vs : List Value} (e : DL AT σ xs vs) {i : Nat} {v : Value} (h : vs[i]? = some v) : ∃ x, xs[i]? = some x ∧ den AT σ x = some v := by
  have := congrArg (·[i]?) e
  simp only [List.getElem?_map, h, Option.map_some] at this
  cases hx : xs[i]? with
  | none => rw [hx] at this; cases this
  | some x => rw [hx] at this; exact ⟨x, rfl, Option.some.inj this⟩
theorem DL.take {xs : List X} {vs : List Value} (e : DL AT σ xs vs) (n : Nat) : DL AT σ (xs.take n) (vs.take n) := by
  unfold DL at *; rw [List.map_take, List.map_take, e]
theorem DL.drop {xs : List X} {vs : List Value} (e : DL AT σ xs vs) (n : Nat) : DL AT σ (xs.drop n) (vs.drop n) := by
  unfold DL at *; rw [List.map_drop, List.map_drop, e]
theorem DL.app {xs ys : List X} {vs us : List Value} (e : DL AT σ xs vs) (f : DL AT σ ys us) : DL AT σ (xs ++ ys) (vs ++ us) := by
  unfold DL at *; rw [List.map_append, List.map_append, e, f]
theorem DL.cons {x : X} {v : Value} {xs : List X} {vs : List Value} (e : den AT σ x = some v) (f : DL AT σ xs vs) : DL AT σ (x :: xs) (v :: vs) := by
  unfold DL at *; rw [List.map_cons, List.map_cons, e, f]
theorem DL.nil : DL AT σ [] [] := rfl
theorem ow_map {α β : Type} (f : α → β) : ∀ (cs : List α) (o : Nat) (vs : List α), (ow cs o vs).map f = ow (cs.map f) o (vs.map f)
  | [], 0, [] => rfl
  | [], 0, _ :: _ => rfl
  | [], _ + 1, _ => rfl
  | _ :: _, 0, [] => rfl
  | _ :: cs, 0, v :: vs => by simp only [ow, List.map_cons, ow_map f cs 0 vs]
  | c :: cs, o + 1, vs => by simp only [ow, List.map_cons, ow_map f cs o vs]
theorem DL.ow {xs ys : List X} {vs us : List Value} (e : DL AT σ xs vs) (f : DL AT σ ys us) (o : Nat) : DL AT σ (ow xs o ys) (ow vs o us) := by
  unfold DL at *; rw [ow_map, ow_map, e, f]
theorem ow_len {α : Type} : ∀ (cs : List α) (o : Nat) (vs : List α), (ow cs o vs).length = cs.length
  | [], 0, [] => rfl
  | [], 0, _ :: _ => rfl
  | [], _ + 1, _ => rfl
  | _ :: _, 0, [] => rfl
  | _ :: cs, 0, v :: vs => by simp only [ow, List.length_cons, ow_len cs 0 vs]
  | c :: cs, o + 1, vs => by simp only [ow, List.length_cons, ow_len cs o vs]
theorem ow_splice : ∀ (cs : List Value) (o : Nat) (vs : List Value), o + vs.length ≤ cs.length → splice cs o vs = ow cs o vs := by
  intro cs o vs h
  rw [splice_eq _ _ _ h]
  induction cs generalizing o vs with
  | nil =>
    cases vs with
    | nil => cases o <;> simp [Go.Jac.ow]
    | cons v r => simp at h
  | cons c cs ih =>
    cases o with
    | zero =>
      cases vs with
      | nil => simp [Go.Jac.ow]
      | cons v r =>
        have := ih 0 r (by simpa using h)
        simp only [List.take_zero, List.nil_append, Nat.zero_add] at this ⊢
        simp only [Go.Jac.ow, List.length_cons, List.cons_append, List.drop_succ_cons, ← this]
    | succ o =>
      have := ih o vs (by simp only [List.length_cons] at h; omega)
      simp only [Go.Jac.ow, List.take_succ_cons, List.cons_append, ← this]
      congr 2
      rw [show o + 1 + vs.length = (o + vs.length) + 1 from by omega, List.drop_succ_cons]
theorem den_of1 (v : Value) : den AT σ (of1 v) = some v := by
  cases v <;> rfl
theorem DL.of1s : ∀ (vs : List Value), DL AT σ (vs.map of1) vs
  | [] => rfl
  | v :: r => DL.cons (den_of1 v) (DL.of1s r)
theorem ofV_of1 {v : Value} (h : ∀ cs, v ≠ .agg cs) : ofV v = of1 v := by
  cases v <;> first | rfl | exact absurd rfl (h _)
theorem den_ofV (v : Value) : den AT σ (ofV v) = some v := by
  cases v with
  | agg cs =>
    show den AT σ (.agg (cs.toList.map of1)) = _
    unfold den
    rw [denL_iff.2 (DL.of1s cs.toList)]
    simp
  | _ => rw [ofV_of1 (by simp)]; exact den_of1 _
theorem den_agg {xs : List X} {v : Value} : den AT σ (.agg xs) = some v ↔ ∃ vs, DL AT σ xs vs ∧ v = .agg vs.toArray := by
  unfold den
  rw [Option.map_eq_some_iff]
  constructor
  · rintro ⟨vs, h, rfl⟩; exact ⟨vs, denL_iff.1 h, rfl⟩
  · rintro ⟨vs, h, rfl⟩; exact ⟨vs, denL_iff.2 h, rfl⟩
theorem den_tup {xs : List X} {v : Value} : den AT σ (.tup xs) = some v ↔ ∃ vs, DL AT σ xs vs ∧ v = .tuple vs.toArray := by
  unfold den
  rw [Option.map_eq_some_iff]
  constructor
  · rintro ⟨vs, h, rfl⟩; exact ⟨vs, denL_iff.1 h, rfl⟩
  · rintro ⟨vs, h, rfl⟩; exact ⟨vs, denL_iff.2 h, rfl⟩
theorem den_fn {f : Fn} {xs ys : List X} {v : Value} : den AT σ (.fn f xs ys) = some v ↔ ∃ vs us, DL AT σ xs vs ∧ DL AT σ ys us ∧ v = .func f vs.toArray us.toArray := by
  unfold den
  rw [Option.bind_eq_some_iff]
  constructor
  · rintro ⟨vs, h, h2⟩
    obtain ⟨us, h3, rfl⟩ := Option.map_eq_some_iff.1 h2
    exact ⟨vs, us, denL_iff.1 h, denL_iff.1 h3, rfl⟩
  · rintro ⟨vs, us, h, h2, rfl⟩
    exact ⟨vs, denL_iff.2 h, by rw [denL_iff.2 h2]; rfl⟩
theorem den_ptr {b o : Nat} {v : Value} : den AT σ (.ptr b o) = some v ↔ ∃ g, σ b = some g ∧ v = .pointer (some ⟨g.ad, g.base + o, none⟩) := by
  unfold den
  rw [Option.map_eq_some_iff]
  constructor <;> rintro ⟨g, h, rfl⟩ <;> exact ⟨g, h, rfl⟩
theorem den_sl {b o l c : Nat} {v : Value} : den AT σ (.sl b o l c) = some v ↔ l ≤ c ∧ ∃ g, σ b = some g ∧ v = .slice (some ⟨g.ad, g.base + o, none⟩) l c := by
  unfold den
  split
  · rename_i h
    rw [Option.map_eq_some_iff]
    constructor
    · rintro ⟨g, h', rfl⟩; exact ⟨h, g, h', rfl⟩
    · rintro ⟨-, g, h', rfl⟩; exact ⟨g, h', rfl⟩
  · rename_i h
    constructor
    · intro h; cases h
    · rintro ⟨h', -⟩; exact absurd h' h
theorem den_so {b o l k : Nat} {v : Value} : den AT σ (.so b o l k) = some v ↔ ∃ g, σ b = some g ∧ l + k ≤ g.cap ∧ v = .slice (some ⟨g.ad, g.base + o, none⟩) l (g.cap - k) := by
  unfold den
  rw [Option.bind_eq_some_iff]
  constructor
  · rintro ⟨g, h, h2⟩
    split at h2
    · cases h2; exact ⟨g, h, by assumption, rfl⟩
    · cases h2
  · rintro ⟨g, h, h2, rfl⟩
    exact ⟨g, h, by rw [if_pos h2]⟩
theorem den_se {b o1 o2 k : Nat} {v : Value} : den AT σ (.se b o1 o2 k) = some v ↔ ∃ g, σ b = some g ∧ k ≤ g.cap ∧ v = .slice (some ⟨g.ad, g.base + (if g.cap = k then o1 else o2), none⟩) 0 (g.cap - k) := by
  unfold den
  rw [Option.bind_eq_some_iff]
  constructor
  · rintro ⟨g, h, h2⟩
    split at h2
    · cases h2; exact ⟨g, h, by assumption, rfl⟩
    · cases h2
  · rintro ⟨g, h, h2, rfl⟩
    exact ⟨g, h, by rw [if_pos h2]⟩
theorem den_mp {b : Nat} {v : Value} : den AT σ (.mp b) = some v ↔ ∃ g, σ b = some g ∧ v = .map (some g.ad) := by
  unfold den
  rw [Option.map_eq_some_iff]
  constructor <;> rintro ⟨g, h, rfl⟩ <;> exact ⟨g, h, rfl⟩
theorem den_yld {b : Nat} {v : Value} : den AT σ (.yld b) = some v ↔ ∃ g, σ b = some g ∧ v = .func (.yield g.ad) #[] #[] := by
  unfold den
  rw [Option.map_eq_some_iff]
  constructor <;> rintro ⟨g, h, rfl⟩ <;> exact ⟨g, h, rfl⟩
theorem den_stp {b : Nat} {v : Value} : den AT σ (.stp b) = some v ↔ ∃ g, σ b = some g ∧ v = .int .i64 g.ad := by
  unfold den
  rw [Option.map_eq_some_iff]
  constructor <;> rintro ⟨g, h, rfl⟩ <;> exact ⟨g, h, rfl⟩
theorem den_int {k : IntKind} {n : Int} {v : Value} : den AT σ (.int k n) = some v ↔ v = .int k n := by simp [den, eq_comm]
theorem den_bool {b : Bool} {v : Value} : den AT σ (.bool b) = some v ↔ v = .bool b := by simp [den, eq_comm]
theorem den_lit {u v : Value} : den AT σ (.lit u) = some v ↔ v = u := by simp [den, eq_comm]
theorem den_gp {b o : Nat} {v : Value} : den AT σ (.gp b o) = some v ↔ v = .pointer (some ⟨b, o, none⟩) := by simp [den, eq_comm]
theorem den_sym {i c : Nat} {v : Value} : den AT σ (.sym i c) = some v ↔ v = AT i c := by simp [den, eq_comm]
/-- What stands in cells. -/
theorem cells_dl {x : X} {v : Value} (h : den AT σ x = some v) (hs : ∀ i c, x = .sym i c → (AT i c).cells = #[AT i c]) (hl : ∀ u, x = .lit u → u.cells = #[u]) : DL AT σ (xcells x) v.cells.toList := by
  cases x with
  | agg xs =>
    obtain ⟨vs, h1, rfl⟩ := den_agg.1 h
    exact h1
  | un => simp [den] at h
  | no => simp [den] at h
  | int k n => cases den_int.1 h; rfl
  | bool b => cases den_bool.1 h; rfl
  | lit u => cases den_lit.1 h; rw [hl _ rfl]; rfl
  | ptr b o => obtain ⟨g, h1, rfl⟩ := den_ptr.1 h; exact DL.cons h DL.nil
  | gp b o => cases den_gp.1 h; rfl
  | sl b o l c => obtain ⟨-, g, h1, rfl⟩ := den_sl.1 h; exact DL.cons h DL.nil
  | so b o l c => obtain ⟨g, h1, -, rfl⟩ := den_so.1 h; exact DL.cons h DL.nil
  | se b o l c => obtain ⟨g, h1, -, rfl⟩ := den_se.1 h; exact DL.cons h DL.nil
  | mp b => obtain ⟨g, h1, rfl⟩ := den_mp.1 h; exact DL.cons h DL.nil
  | fn f a c => obtain ⟨a, b, _, _, rfl⟩ := den_fn.1 h; exact DL.cons h DL.nil
  | yld b => obtain ⟨g, h1, rfl⟩ := den_yld.1 h; exact DL.cons h DL.nil
  | tup xs => obtain ⟨vs, h1, rfl⟩ := den_tup.1 h; exact DL.cons h DL.nil
  | sym i c => cases den_sym.1 h; rw [hs _ _ rfl]; rfl
  | stp b => obtain ⟨g, h1, rfl⟩ := den_stp.1 h; exact DL.cons h DL.nil
end
end Go.Jac
