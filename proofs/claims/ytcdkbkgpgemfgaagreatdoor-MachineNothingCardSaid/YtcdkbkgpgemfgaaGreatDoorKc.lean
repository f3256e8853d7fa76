/- Memory that is known by names, as parts: read, written, grown. -/
import Derived.Test.YtcdkbkgpgemfgaaGreatDoorKb
import Derived.Test.YtcdkbkgpgemfgaaGreatDoorSz
namespace Go.Jac
open Go

section
variable (AT : Nat → Nat → Value) (P : Program)
def RelX (σ : Sg) (x : X) (s : SV) : Prop := match x with
  | .un => True
  | .no => s = su
  | x => ∃ v, den AT σ x = some v ∧ s.v = v ∧ s.Good
def EnvR (σ : Sg) (E : XE) (ρ : Env) : Prop := ∀ i, RelX AT σ (getE E i) (ρ i)
/-- What a round of a loop over a function does. -/
def xrd (n : Nat) (ps : List Nat) (a b : Code) (ρ : Env) (l : Nat) (args : List Value) (K : Value → WP) : WP :=
  unpX ps args (ρ.upd MK (dy (.tuple #[]))) fun ρ0 => W P n a (some l) (ue b) ρ0 (thenX (fun ρ1 => RBeg l (W P n b (some l) [] ρ1 fun e _ => match e with
          | .normal => REnd l none K
          | .ret => REnd l (some .ret) K
          | .exit i => REnd l (some (.exit i)) K
          | _ => fun _ => False)) (fun _ _ _ => False))
def pendOk : PX → Option Code → Prop
  | .none, c => c = none
  | .ret, c => c = some .ret
  | .exit i, c => c = some (.exit i)
/-- A map of which one entry's stamp is known. -/
def MpS (b : Nat) (g : Int → Option Value) (n : Nat) (k : Int) (s : Nat) : HP := fun h => ∃ es clock, h b = some (.map es clock) ∧ MpOk es.toList clock g n ∧ ∃ e ∈ es.toList, kI e.key = k ∧ e.born = s
def curOk (σ : Sg) : Option (Int × X) → Option (Int × Value) → Prop
  | none, c => c = none
  | some (k, x), c => ∃ v, den AT σ x = some v ∧ c = some (k, v)
def gm (σ : Sg) (es : List (Int × X)) (k : Int) : Option Value := (lkM es k).bind (den AT σ)
def partB (σ : Sg) : Nat × XB → HP
  | (b, .bl t op cs) => fun h => ∃ g vs pre junk, σ b = some g ∧ DL AT σ cs vs ∧ h g.ad = some (.cells (pre ++ vs ++ junk).toArray t (0, 0)) ∧ pre.length = g.base ∧
      (match op with | none => pre = [] ∧ junk = [] | some es => (vs ++ junk).length = g.cap * es)
  | (b, .mp es) => fun h => ∃ g, σ b = some g ∧ (∀ p ∈ es, ∃ v, den AT σ p.2 = some v) ∧ (es.map (·.1)).Nodup ∧ Mp g.ad (gm AT σ es) es.length h
  | (b, .ms es k n) => fun h => ∃ g q, σ b = some g ∧ σ n = some q ∧ (∀ p ∈ es, ∃ v, den AT σ p.2 = some v) ∧ (es.map (·.1)).Nodup ∧ MpS g.ad (gm AT σ es) es.length k q.ad h
  | (r, .mi b es seen cur) => fun h => ∃ g q m c, σ r = some g ∧ g.base = 0 ∧ σ b = some q ∧ (∀ p ∈ es, ∃ v, den AT σ p.2 = some v) ∧ (es.map (·.1)).Nodup ∧ curOk AT σ cur c ∧ Mis g.ad q.ad (gm AT σ es) es.length m (fun k => hasI seen k = true) c h
  | (b, .lp i st p) => fun h => ∃ g r r0 ρ, σ b = some g ∧ g.lp = some r0 ∧ h g.ad = some (.loop r) ∧ sameLp r r0 ∧ r.state = st ∧ pendOk p r.pending ∧ EnvR AT σ i.E ρ ∧ RoundOf P r0 (xrd P i.n i.ps i.a i.b ρ)
  | (b, .df) => fun h => ∃ g, σ b = some g ∧ h g.ad = some (.deferred (some []))
structure Rep (w0 : World) (F : List HP) (σ : Sg) (S : XS) (w : World) : Prop where
  d : D w0 (S.bs.map (partB AT P σ) ++ F) w
  fresh : ∀ n, S.nx ≤ n → σ n = none
end
section
variable {AT : Nat → Nat → Value} {P : Program} {σ τ : Sg} {w0 w : World} {F : List HP}
theorem RelX.of {x : X} {s : SV} {v : Value} (h : den AT σ x = some v) (h1 : s.v = v) (h2 : s.Good) : RelX AT σ x s := by
  unfold RelX
  split
  · trivial
  · simp [den] at h
  · exact ⟨v, h, h1, h2⟩
theorem RelX.dy {x : X} {v : Value} (h : den AT σ x = some v) : RelX AT σ x (dy v) := .of h rfl trivial
theorem RelX.out {x : X} {s : SV} (h : RelX AT σ x s) (hx : isX x = true) : ∃ v, den AT σ x = some v ∧ s.v = v ∧ s.Good := by
  unfold RelX at h
  split at h
  · cases hx
  · cases hx
  · exact h
theorem RelX.mono (h : σ.le τ) {x : X} {s : SV} (r : RelX AT σ x s) : RelX AT τ x s := by
  unfold RelX at *
  split
  · trivial
  · exact r
  · rename_i h1 h2
    split at r
    · exact absurd rfl h1
    · exact absurd rfl h2
    · obtain ⟨v, a, b, c⟩ := r
      exact ⟨v, den_mono h a, b, c⟩
theorem EnvR.mono (h : σ.le τ) {E : XE} {ρ : Env} (r : EnvR AT σ E ρ) : EnvR AT τ E ρ := fun i => (r i).mono h
theorem isX_of {x : X} {v : Value} (h : den AT σ x = some v) : isX x = true := by cases x <;> first | rfl | simp [den] at h
theorem getE_cons (E : XE) (d i : Nat) (x : X) : getE ((d, x) :: E) i = if i = d then x else getE E i := by
  show cond (Nat.beq i d) x (getE E i) = _
  by_cases h : i = d
  · subst h; simp
  · have : Nat.beq i d = false := by rw [← Bool.not_eq_true]; simpa using h
    simp [this, h]
theorem EnvR.cons {E : XE} {ρ : Env} (r : EnvR AT σ E ρ) (d : Nat) {x : X} {s : SV} (h : RelX AT σ x s) : EnvR AT σ ((d, x) :: E) (ρ.upd d s) := fun i => by
  rw [getE_cons]
  by_cases e : i = d
  · subst e; rw [if_pos rfl, Env.upd_same]; exact h
  · rw [if_neg e, Env.upd_ne _ _ e]; exact r i
theorem EnvR.put {E : XE} {ρ : Env} (r : EnvR AT σ E ρ) (d : Option Nat) {x : X} {s : SV} (h : RelX AT σ x s) : EnvR AT σ (putX E d x) (ρ.put d s) := by
  cases d with
  | none => exact r
  | some d => exact r.cons d h
/-- A guard's value is known: what is known of the place stays. -/
theorem EnvR.know {E : XE} {ρ : Env} (r : EnvR AT σ E ρ) {g : Nat} {b : Bool} (h : getE E g = .bool b) : EnvR AT σ E (ρ.upd g (sb b)) := fun i => by
  by_cases e : i = g
  · subst e
    rw [Env.upd_same, h]
    exact ⟨.bool b, rfl, sb_v b, good_sb b⟩
  · rw [Env.upd_ne _ _ e]; exact r i
theorem op_rel {E : XE} {ρ : Env} (r : EnvR AT σ E ρ) (x : Operand) : RelX AT σ (opX E x) (evS ρ x) := by
  cases x with
  | tmp t => exact r t
  | const v => exact .of (den_ofV v) (svOf_v v) (good_svOf v)
  | global g => exact .of (den_gp.2 rfl) rfl trivial
  | func f => exact .of (den_fn.2 ⟨[], [], DL.nil, DL.nil, rfl⟩) rfl trivial
theorem op_den {E : XE} {ρ : Env} (r : EnvR AT σ E ρ) {x : Operand} (hx : isX (opX E x) = true) : den AT σ (opX E x) = some (ev ρ x) := by
  obtain ⟨v, h1, h2, _⟩ := (op_rel r x).out hx
  rw [h1, ← h2]; rfl
theorem op_dens {E : XE} {ρ : Env} (r : EnvR AT σ E ρ) {xs : List Operand} (hx : allB isX (xs.map (opX E)) = true) : DL AT σ (xs.map (opX E)) (xs.map (ev ρ)) := by
  induction xs with
  | nil => rfl
  | cons x l ih =>
    have h := allB_iff.1 hx
    exact DL.cons (op_den r (h _ (by simp))) (ih (allB_iff.2 fun y hy => h y (by simp only [List.map_cons, List.mem_cons]; exact .inr hy)))

/-! ### Parts -/
theorem gm_mono (h : σ.le τ) {es : List (Int × X)} (hd : ∀ p ∈ es, ∃ v, den AT σ p.2 = some v) : gm AT τ es = gm AT σ es := by
  funext k
  unfold gm
  induction es with
  | nil => rfl
  | cons p r ih =>
    obtain ⟨k', x⟩ := p
    unfold lkM
    cases decide (k' = k) with
    | true =>
      obtain ⟨v, hv⟩ := hd (k', x) (by simp)
      simp only [cond_true, Option.bind_some]
      rw [hv, den_mono h hv]
    | false => exact ih fun p hp => hd p (by simp [hp])
theorem defd_mono (h : σ.le τ) {es : List (Int × X)} (hd : ∀ p ∈ es, ∃ v, den AT σ p.2 = some v) : ∀ p ∈ es, ∃ v, den AT τ p.2 = some v := fun p hp => by
  obtain ⟨v, hv⟩ := hd p hp; exact ⟨v, den_mono h hv⟩
theorem curOk_mono (h : σ.le τ) {c : Option (Int × X)} {v : Option (Int × Value)} (hc : curOk AT σ c v) : curOk AT τ c v := by
  cases c with
  | none => exact hc
  | some p => obtain ⟨v, h1, h2⟩ := hc; exact ⟨v, den_mono h h1, h2⟩
theorem Sat.ext3 : ∀ {L : List HP} {h h' : Hp}, Sat L h → (∀ b o, h b = some o → h' b = some o) → Sat L h'
  | [], _, _, _, _ => trivial
  | A :: L, h, h', s, g => by
    obtain ⟨h1, h2, s1, a, l⟩ := s
    refine ⟨h1, fun b => if (h1 b).isSome then none else h' b, fun b => ?_, a, Sat.ext3 l fun b o hb => ?_⟩
    · cases hb : h1 b with
      | none => left; simp [hb]
      | some o => right; exact ⟨by simp [hb], g b o (s1.l hb)⟩
    · have : h1 b = none := s1.comm.off hb
      simp only [this, Option.isSome_none, Bool.false_eq_true, if_false]
      exact g b o (s1.r hb)
theorem partB_mono (h : σ.le τ) : ∀ (p : Nat × XB) (hh : Hp), partB AT P σ p hh → partB AT P τ p hh
  | (b, .bl t op cs), hh, ⟨g, vs, pre, junk, h1, h2, h3, h4, h5⟩ => ⟨g, vs, pre, junk, h b g h1, h2.mono h, h3, h4, h5⟩
  | (b, .mp es), hh, ⟨g, h1, h2, h0, h3⟩ => ⟨g, h b g h1, defd_mono h h2, h0, by rw [gm_mono h h2]; exact h3⟩
  | (b, .ms es k n), hh, ⟨g, q, h1, h1', h2, h0, h3⟩ => ⟨g, q, h b g h1, h n q h1', defd_mono h h2, h0, by rw [gm_mono h h2]; exact h3⟩
  | (r, .mi b es seen cur), hh, ⟨g, q, m, c, h1, h1', h1'', h2, h0, h3, h4⟩ => ⟨g, q, m, c, h r g h1, h1', h b q h1'', defd_mono h h2, h0, curOk_mono h h3, by rw [gm_mono h h2]; exact h4⟩
  | (b, .lp i st p), hh, ⟨g, r, r0, ρ, h1, h2, h3, h4, h5, h6, h7, h8⟩ => ⟨g, r, r0, ρ, h b g h1, h2, h3, h4, h5, h6, h7.mono h, h8⟩
  | (b, .df), hh, ⟨g, h1, h2⟩ => ⟨g, h b g h1, h2⟩
theorem partB_up {hh hh' : Hp} (h : ∀ b o, hh b = some o → hh' b = some o) : ∀ (p : Nat × XB), partB AT P σ p hh → partB AT P σ p hh'
  | (b, .bl t op cs), ⟨g, vs, pre, junk, h1, h2, h3, h4, h5⟩ => ⟨g, vs, pre, junk, h1, h2, h _ _ h3, h4, h5⟩
  | (b, .mp es), ⟨g, h1, h2, h0, es', clock, h3, h4⟩ => ⟨g, h1, h2, h0, es', clock, h _ _ h3, h4⟩
  | (b, .ms es k n), ⟨g, q, h1, h1', h2, h0, es', clock, h3, h4⟩ => ⟨g, q, h1, h1', h2, h0, es', clock, h _ _ h3, h4⟩
  | (r, .mi b es seen cur), ⟨g, q, m, c, h1, h1', h1'', h2, h0, h3, p, h4⟩ => ⟨g, q, m, c, h1, h1', h1'', h2, h0, h3, p, Sat.ext3 h4 h⟩
  | (b, .lp i st p), ⟨g, r, r0, ρ, h1, h2, h3, h4, h5, h6, h7, h8⟩ => ⟨g, r, r0, ρ, h1, h2, h _ _ h3, h4, h5, h6, h7, h8⟩
  | (b, .df), ⟨g, h1, h2⟩ => ⟨g, h1, h _ _ h2⟩
theorem Sat.mapm {f g : Nat × XB → HP} (hfg : ∀ p hh, f p hh → g p hh) : ∀ (bs : List (Nat × XB)) {h : Hp}, Sat (bs.map f ++ F) h → Sat (bs.map g ++ F) h
  | [], _, s => s
  | p :: r, h, ⟨h1, h2, s, a, l⟩ => ⟨h1, h2, s, hfg p h1 a, Sat.mapm hfg r l⟩
theorem D.monoB (h : σ.le τ) {bs : List (Nat × XB)} (d : D w0 (bs.map (partB AT P σ) ++ F) w) : D w0 (bs.map (partB AT P τ) ++ F) w := ⟨Sat.mapm (partB_mono h) bs d.1, d.2⟩
theorem find_split : ∀ {bs : List (Nat × XB)} {b : Nat} {x : XB}, findB bs b = some x → ∃ L1 L2, bs = L1 ++ (b, x) :: L2 ∧ (∀ y, updB bs b y = L1 ++ (b, y) :: L2) ∧ delB bs b = L1 ++ L2
  | [], b, x, h => by cases h
  | (c, y) :: r, b, x, h => by
    unfold findB at h
    cases hb : Nat.beq c b with
    | true =>
      rw [hb] at h
      have e := Nat.eq_of_beq_eq_true hb
      subst e
      cases h
      refine ⟨[], r, rfl, fun y => ?_, ?_⟩
      · unfold updB; rw [hb]; rfl
      · unfold delB; rw [hb]; rfl
    | false =>
      rw [hb] at h
      obtain ⟨L1, L2, h1, h2, h3⟩ := find_split h
      refine ⟨(c, y) :: L1, L2, by rw [h1]; rfl, fun z => ?_, ?_⟩
      · unfold updB; rw [hb, cond_false, h2]; rfl
      · unfold delB; rw [hb, cond_false, h3]; rfl
theorem find_mem {bs : List (Nat × XB)} {b : Nat} {x : XB} (h : findB bs b = some x) : (b, x) ∈ bs := by
  obtain ⟨L1, L2, rfl, _, _⟩ := find_split h; simp
/-- A part, taken out; what is left; any other part put in its place. -/
theorem D.takeB {bs : List (Nat × XB)} {b : Nat} {x : XB} (h : findB bs b = some x) (d : D w0 (bs.map (partB AT P σ) ++ F) w) :
    ∃ L, D w0 (partB AT P σ (b, x) :: L) w ∧ (∀ y w', D w0 (partB AT P σ (b, y) :: L) w' → D w0 ((updB bs b y).map (partB AT P σ) ++ F) w') ∧ L = (delB bs b).map (partB AT P σ) ++ F := by
  obtain ⟨L1, L2, rfl, h2, h3⟩ := find_split h
  refine ⟨L1.map (partB AT P σ) ++ (L2.map (partB AT P σ) ++ F), ?_, fun y w' d' => ?_, ?_⟩
  · rw [List.map_append, List.map_cons, List.append_assoc, List.cons_append] at d
    exact d.perm List.perm_middle
  · rw [h2, List.map_append, List.map_cons, List.append_assoc, List.cons_append]
    exact d'.perm List.perm_middle.symm
  · rw [h3, List.map_append, List.append_assoc]
theorem Sat.mem {A : HP} : ∀ {L : List HP} {h : Hp}, A ∈ L → Sat L h → ∃ h1, A h1 ∧ ∀ b o, h1 b = some o → h b = some o
  | B :: L, h, hm, ⟨h1, h2, s, a, l⟩ => by
    rcases List.mem_cons.1 hm with rfl | hm
    · exact ⟨h1, a, fun b o => s.l⟩
    · obtain ⟨h3, a3, u⟩ := Sat.mem hm l
      exact ⟨h3, a3, fun b o e => s.r (u b o e)⟩
/-- What is known of a block, told of all of memory. -/
theorem D.atB {bs : List (Nat × XB)} {b : Nat} {x : XB} (h : findB bs b = some x) (d : D w0 (bs.map (partB AT P σ) ++ F) w) : partB AT P σ (b, x) (hw w) := by
  obtain ⟨h1, a, u⟩ := Sat.mem (A := partB AT P σ (b, x)) (by simp only [List.mem_append]; exact .inl (List.mem_map.2 ⟨_, find_mem h, rfl⟩)) d.1
  exact partB_up u _ a
theorem keep_sat (ns : List Nat) : ∀ {bs : List (Nat × XB)} {h : Hp}, Sat (bs.map (partB AT P σ) ++ F) h → Sat ((keepN ns bs).map (partB AT P σ) ++ F) h
  | [], _, s => s
  | (b, x) :: r, h, s => by
    unfold keepN
    cases hasN ns b with
    | true => exact s.under fun h s => keep_sat ns s
    | false => exact keep_sat ns s.tail
theorem Rep.le {S : XS} (r : Rep AT P w0 F σ S w) {g : Gh} : σ.le (σ.add S.nx g) := Sg.le_add g (r.fresh _ (Nat.le_refl _))
/-- One block more. -/
theorem Rep.grow {S : XS} {x : XB} {g : Gh} {w' : World} (r : Rep AT P w0 F σ S w) (d : D w0 (partB AT P (σ.add S.nx g) (S.nx, x) :: (S.bs.map (partB AT P σ) ++ F)) w') : Rep AT P w0 F (σ.add S.nx g) (S.add x) w' := by
  refine ⟨?_, fun n hn => ?_⟩
  · obtain ⟨⟨h1, h2, s, a, l⟩, k⟩ := d
    exact ⟨⟨h1, h2, s, a, Sat.mapm (partB_mono r.le) S.bs l⟩, k⟩
  · have hn : S.nx + 1 ≤ n := hn
    unfold Sg.add
    rw [if_neg (by omega)]
    exact r.fresh n (by omega)
end
end Go.Jac
