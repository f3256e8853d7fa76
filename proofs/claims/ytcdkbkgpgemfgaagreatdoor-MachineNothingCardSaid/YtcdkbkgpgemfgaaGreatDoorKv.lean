/- Operations of a drawn region, in any order that may be: the order in which the machine does them answers for all. -/
import Derived.Test.YtcdkbkgpgemfgaaGreatDoorKu
set_option maxRecDepth 100000
namespace Go.Jac
open Go

/-- A new variable that the machine has not made yet. -/
structure QEn where
  x : Nat × Oper
  a : Nat
  t : TypeId
  i : TypeInfo
  z : Value
  d : Nat
def QEn.hp (q : QEn) : HP := pts q.a (.cells q.z.cells q.t (0, 0))
structure QEn.Ok (P : Program) (q : QEn) : Prop where
  gd : q.x.2.guard = none
  op : q.x.2.op = .alloc q.t
  info : P.info? q.t = some q.i
  zero : q.i.zero = some q.z
  dst : q.x.2.dst = some q.d
theorem QEn.Ok.isA {P : Program} {q : QEn} (h : q.Ok P) : isA q.x = true := by
  unfold Jac.isA; rw [h.gd]; dsimp only; rw [h.op]
theorem envOp_guard {o : Oper} (h : envOp o = true) : o.guard = none := by
  unfold envOp at h
  split at h
  · cases h
  · assumption
theorem envOp_notA {x : Nat × Oper} (h : envOp x.2 = true) : isA x = false := by
  cases hA : isA x with
  | false => rfl
  | true =>
    obtain ⟨h1, t, h2⟩ := isA_of hA
    unfold envOp at h
    rw [h1] at h
    dsimp only at h
    rw [h2] at h
    cases h
/-- Of a row of operations: no two at one place; what new variables are. -/
structure RowA (P : Program) (L : List (Nat × Oper)) : Prop where
  u : ∀ x ∈ L, ∀ y ∈ L, x.1 = y.1 → x = y
  a : ∀ a ∈ L, isA a = true → ∀ n, ∃ q : QEn, q.x = a ∧ q.a = n ∧ q.Ok P
  d : ∀ a ∈ L, isA a = true → ∀ d, a.2.dst = some d → ∀ y ∈ L, y.1 ≠ a.1 → y.2.dst ≠ some d
theorem RowA.ne {P : Program} {L : List (Nat × Oper)} (h : RowA P L) {x y : Nat × Oper} (hx : x ∈ L) (hy : y ∈ L) (hn : x ≠ y) : x.1 ≠ y.1 := fun e => hn (h.u x hx y hy e)
theorem rowA_of {P : Program} {M m : Nat} {s : List Oper} (h : allB (allocOk P (chL M s m)) (onlyA (chL M s m)) = true) : RowA P (chL M s m) := by
  have key : ∀ a ∈ chL M s m, isA a = true → allocOk P (chL M s m) a = true := fun a ha hA => allB_iff.1 h a (onlyA_mem.2 ⟨ha, hA⟩)
  refine ⟨?_, ?_, ?_⟩
  · rintro ⟨p, o⟩ hx ⟨p', o'⟩ hy e
    cases (show p = p' from e)
    obtain ⟨q, h1, h2, -⟩ := chL_mem.1 hx
    obtain ⟨q', h3, h4, -⟩ := chL_mem.1 hy
    have : q = q' := by omega
    subst this
    rw [h2] at h4
    cases h4
    rfl
  · intro a ha hA n
    have := key a ha hA
    obtain ⟨h1, -⟩ := isA_of hA
    unfold allocOk at this
    split at this
    · rename_i t ht
      split at this
      · rename_i i hi
        split at this
        · rename_i z hz
          split at this
          · rename_i d hd
            exact ⟨⟨a, n, t, i, z, d⟩, rfl, rfl, ⟨h1, ht, hi, hz, hd⟩⟩
          · cases this
        · cases this
      · cases this
    · cases this
  · intro a ha hA d hd
    have := key a ha hA
    unfold allocOk at this
    split at this
    · split at this
      · split at this
        · rw [hd] at this
          exact noDst_out this
        · cases this
      · cases this
    · cases this
section
variable {AT : Nat → Nat → Value} {P : Program} {GL : Gv} {w0 : World} {F : List HP} {cl : Bool → Nat → List X → XS → R (X × XS)}
theorem D.dropF {A Ls : List HP} {w : World} (d : D w0 (A ++ (Ls ++ F)) w) : D w0 (A ++ F) w := by
  induction Ls with
  | nil => exact d
  | cons l r ih => exact ih (d.perm List.perm_middle).tail
theorem ki_of {σ0 σ : Sg} {S : XS} {w : World} {kp : List (Nat × XB)} {Ls : List HP} (hl : σ0.le σ) (r : Rep AT P w0 (Ls ++ F) σ S w) (hk : keeps S.bs kp = true) : KI AT P w0 F σ0 kp w := ⟨σ, hl, (keeps_ok hk r.d).dropF⟩
theorem xTurn_out {all : List Oper} {x : Oper} {E E1 : XE} {S S1 : XS} : ∀ {G : XG}, xTurn P GL cl all x E S G = .ok (E1, S1) →
    ∃ Em E0, (∀ i, getE Em i = if i ∈ dstsA (opsG G) then .un else getE E i) ∧ xOps P GL cl all [x] Em S = .ok (E0, S1) ∧ ∀ y, E0 = putX Em x.dst y → ∀ i, getE E1 i = if x.dst = some i then y else getE E i
  | [], h => ⟨E, E1, fun i => by simp [opsG, dstsA], h, fun y e i => by rw [e, getE_put]⟩
  | g :: r, h => by
    unfold xTurn at h
    dsimp only at h
    rw [baseK_eq] at h
    obtain ⟨⟨E0, S0⟩, h1, h2⟩ := R.bind_ok h
    have h2 := R.ok.inj h2
    obtain ⟨e1, e2⟩ := Prod.mk.inj h2
    dsimp only at e1 e2
    subst e2
    refine ⟨_, E0, fun i => ?_, h1, fun y e i => ?_⟩
    · rw [getE_bas]; simp only [hasN_iff]
    · subst e
      rw [← e1]
      cases hd : x.dst with
      | none => simp
      | some d =>
        dsimp only
        rw [getE_cons, getE_put]
        by_cases hi : i = d
        · subst hi; simp
        · rw [if_neg hi, if_neg (by simp; exact fun h => hi h.symm)]

variable (AT P GL cl w0 F) in
/-- The machine and the run: U, V: what each has yet to do. -/
structure Fl (L : List (Nat × Oper)) (B : List Nat) (M : Nat) (s : List Oper) (m : Nat) (kp : List (Nat × XB)) (σ0 : Sg) (G : XG) (U V : List (Nat × Oper)) (E : XE) (S : XS) (Q : List QEn) (σ : Sg) (ρ : Env) (w : World) : Prop where
  le : σ0.le σ
  uL : ∀ x ∈ U, x ∈ L
  vL : ∀ x ∈ V, x ∈ L
  q : ∀ q ∈ Q, q.x ∈ U ∧ q.x ∉ V ∧ q.Ok P ∧ (ρ q.d).v = .pointer (some ⟨q.a, 0, none⟩) ∧ (ρ q.d).Good
  qn : (Q.map (·.x)).Nodup
  uq : ∀ x ∈ U, x ∉ V → ∃ q ∈ Q, q.x = x
  rep : Rep AT P w0 (Q.map QEn.hp ++ F) σ S w
  en : ∀ i, RelX AT σ (getE E i) (ρ i) ∨ ∃ z ∈ V, z ∉ U ∧ z.2.dst = some i
  g : ∀ z ∈ V, z ∉ U → ∃ Ez, (z, Ez) ∈ G
  rc : ∀ p ∈ G, p.1 ∈ L ∧ p.1 ∉ U ∧ envOp p.1.2 = true ∧ (∃ y, (∀ S1, xOp P GL cl p.1.2 p.2 S1 = .ok (y, S1)) ∧ ∀ d, p.1.2.dst = some d → getE E d = y) ∧ ∀ i, getE p.2 i = if i ∈ readsOf p.1.2 then getE E i else .un
  hg : ∀ p ∈ G, ∀ p' ∈ G, dstIn (readsOf p.1.2) p'.1 = true → dep B p'.1.1 p.1.1 = true ∧ p'.1.1 ≠ p.1.1
  al : ∀ a ∈ U, isA a = true → ∀ d, a.2.dst = some d → getE E d = .un
  ki : ∀ z, (z ∈ U ∧ isA z = true) ∨ (∃ p ∈ G, p.1 = z) → needI B M z.1 s m = true → keeps S.bs kp = true

section
variable {L : List (Nat × Oper)} {B : List Nat} {M : Nat} {s : List Oper} {m : Nat} {kp : List (Nat × XB)} {σ0 σ : Sg} {G : XG} {U V : List (Nat × Oper)} {E : XE} {S : XS} {Q : List QEn} {ρ : Env} {w : World} {all : List Oper} {C : Env → WP} {n : Nat}
theorem same_v {ρ ρ1 : Env} {i a : Nat} (h : ρ1 i = ρ i ∨ ∃ b, (ρ i).v = .bool b ∧ ρ1 i = sb b) (hv : (ρ i).v = .pointer (some ⟨a, 0, none⟩)) : ρ1 i = ρ i := by
  rcases h with h | ⟨b, h, -⟩
  · exact h
  · rw [hv] at h; cases h
theorem rel_kn {x : X} {i : Nat} {ρ ρ1 : Env} (h : ρ1 i = ρ i ∨ ∃ b, (ρ i).v = .bool b ∧ ρ1 i = sb b) (hr : RelX AT σ x (ρ i)) : RelX AT σ x (ρ1 i) := by
  rcases h with h | ⟨b, h1, h2⟩
  · rw [h]; exact hr
  · rw [h2]; exact hr.sb h1
/-- The run does what the machine has done already. -/
theorem real_early (hAT : ∀ i c, (AT i c).oneCell' = true) (hG : GLok AT GL w0 F) (hH : ∀ Ls, HOk AT P w0 (Ls ++ F) cl) (hL : RowA P L) (fl : Fl AT P GL w0 F cl L B M s m kp σ0 G U V E S Q σ ρ w) {z : Nat × Oper} (zV : z ∈ V) (zU : z ∉ U) (hf : frontB B z.1 V = true)
    (next : ∀ σ' ρ' w', σ.le σ' → Fl AT P GL w0 F cl L B M s m kp σ0 G U (dropU z.1 V) E S Q σ' ρ' w' → WCh P all B M (KI AT P w0 F σ0 kp) s m n (dropU z.1 V) ρ' C w') :
    WOps P all [z.2] ρ (fun ρ' => condW (needI B M z.1 s m) (CH (KI AT P w0 F σ0 kp) (WCh P all B M (KI AT P w0 F σ0 kp) s m n (dropU z.1 V) ρ' C)) (WCh P all B M (KI AT P w0 F σ0 kp) s m n (dropU z.1 V) ρ' C)) w := by
  obtain ⟨Ez, hz⟩ := fl.g z zV zU
  obtain ⟨zL, -, zE, ⟨y, hy, hd⟩, hr⟩ := fl.rc _ hz
  dsimp only at zL zE hy hd hr
  have he : EnvR AT σ Ez ρ := fun i => by
    rw [hr i]
    split
    · rename_i hi
      rcases fl.en i with h | ⟨z', h1, h2, h3⟩
      · exact h
      · obtain ⟨Ez', hz'⟩ := fl.g z' h1 h2
        have h4 := fl.hg _ hz _ hz' (dstIn_iff.2 ⟨i, h3, hi⟩)
        have h5 := frontB_out hf z' h1 h4.2
        rw [h4.1] at h5
        cases h5
    · exact trivial
  have hx : xOps P GL cl all [z.2] Ez S = .ok (putX Ez z.2.dst y, S) := by
    unfold xOps
    rw [envOp_guard zE]
    dsimp only
    rw [hy S]
    simp only [R.bind, force2_eq]
    rfl
  refine op1_ok hAT (hG.app _) (hH _) he fl.rep hx fun σ' ρ1 s1 w' y' hl r' e1 hrel hρ => ?_
  have hyy : ∀ d, z.2.dst = some d → y' = y := fun d hd => by
    have := congrArg (getE · d) e1
    simp only [getE_put, hd, if_pos] at this
    exact this.symm
  have fl' : Fl AT P GL w0 F cl L B M s m kp σ0 G U (dropU z.1 V) E S Q σ' (ρ1.put z.2.dst s1) w' := by
    refine ⟨fl.le.trans hl, fl.uL, fun x hx => fl.vL x (dropU_mem.1 hx).1, fun q hq => ?_, fl.qn, fun x hx hn => ?_, r', fun i => ?_, fun x hx hn => fl.g x (dropU_mem.1 hx).1 hn, fl.rc, fl.hg, fl.al, fl.ki⟩
    · obtain ⟨h1, h2, h3, h4, h5⟩ := fl.q q hq
      have hne : z.2.dst ≠ some q.d := hL.d q.x (fl.uL _ h1) h3.isA q.d h3.dst z zL (hL.ne zL (fl.uL _ h1) fun e => zU (e ▸ h1))
      have : (ρ1.put z.2.dst s1) q.d = ρ q.d := by rw [env_put, if_neg hne]; exact same_v (hρ q.d) h4
      exact ⟨h1, fun h => h2 (dropU_mem.1 h).1, h3, by rw [this]; exact h4, by rw [this]; exact h5⟩
    · exact fl.uq x hx fun hv => hn (dropU_mem.2 ⟨hv, hL.ne (fl.vL _ hv) zL fun e => zU (e ▸ hx)⟩)
    · rw [env_put]
      by_cases hi : z.2.dst = some i
      · rw [if_pos hi, hd i hi, ← hyy i hi]; exact .inl hrel
      · rw [if_neg hi]
        rcases fl.en i with h | ⟨z', h1, h2, h3⟩
        · exact .inl ((rel_kn (hρ i) h).mono hl)
        · exact .inr ⟨z', dropU_mem.2 ⟨h1, hL.ne (fl.vL _ h1) zL fun e => hi (e ▸ h3)⟩, h2, h3⟩
  have nx := next σ' _ w' hl fl'
  cases hn : needI B M z.1 s m with
  | false => rw [condW_false]; exact nx
  | true =>
    rw [condW_true]
    exact ⟨ki_of (fl.le.trans hl) r' (fl.ki z (.inr ⟨_, hz, rfl⟩) hn), nx⟩
/-- The run makes a variable; the machine has not made it yet. -/
theorem real_late (hL : RowA P L) (fl : Fl AT P GL w0 F cl L B M s m kp σ0 G U V E S Q σ ρ w) {z : Nat × Oper} (zV : z ∈ V) (zU : z ∈ U) (zA : isA z = true)
    (next : ∀ Q' ρ' w', Fl AT P GL w0 F cl L B M s m kp σ0 G U (dropU z.1 V) E S Q' σ ρ' w' → WCh P all B M (KI AT P w0 F σ0 kp) s m n (dropU z.1 V) ρ' C w') :
    WOps P all [z.2] ρ (fun ρ' => condW (needI B M z.1 s m) (CH (KI AT P w0 F σ0 kp) (WCh P all B M (KI AT P w0 F σ0 kp) s m n (dropU z.1 V) ρ' C)) (WCh P all B M (KI AT P w0 F σ0 kp) s m n (dropU z.1 V) ρ' C)) w := by
  obtain ⟨q, hqx, hqa, hq⟩ := hL.a z (fl.vL z zV) zA w.heap.size
  have zL := fl.vL z zV
  have r' : Rep AT P w0 ((q :: Q).map QEn.hp ++ F) σ S (w.alloc (.cells q.z.cells q.t (0, 0))) := by
    refine ⟨?_, fl.rep.fresh⟩
    have : D w0 (q.hp :: (S.bs.map (partB AT P σ) ++ (Q.map QEn.hp ++ F))) (w.alloc (.cells q.z.cells q.t (0, 0))) := by
      refine ⟨?_, fl.rep.d.2.trans (Kp.alloc _ _)⟩
      rw [hw_alloc]
      unfold QEn.hp
      rw [hqa]
      exact Sat.new (hw_none w) fl.rep.d.1
    exact this.perm List.perm_middle.symm
  subst hqx
  unfold WOps
  rw [hq.gd]
  dsimp only
  unfold OpV
  rw [hq.op]
  dsimp only
  rw [hq.info]
  dsimp only
  rw [hq.zero]
  dsimp only
  unfold New
  unfold WOps
  have fl' : Fl AT P GL w0 F cl L B M s m kp σ0 G U (dropU q.x.1 V) E S (q :: Q) σ (ρ.put q.x.2.dst (dy (.pointer (some ⟨w.heap.size, 0, none⟩)))) (w.alloc (.cells q.z.cells q.t (0, 0))) := by
    refine ⟨fl.le, fl.uL, fun x hx => fl.vL x (dropU_mem.1 hx).1, fun q' hq' => ?_, ?_, fun x hx hn => ?_, r', fun i => ?_, fun x hx hn => fl.g x (dropU_mem.1 hx).1 hn, fl.rc, fl.hg, fl.al, fl.ki⟩
    · rcases List.mem_cons.1 hq' with rfl | hq'
      · refine ⟨zU, fun h => (dropU_mem.1 h).2 rfl, hq, ?_, ?_⟩
        · rw [env_put, if_pos hq.dst, hqa]; rfl
        · rw [env_put, if_pos hq.dst]; trivial
      · obtain ⟨h1, h2, h3, h4, h5⟩ := fl.q q' hq'
        have hne : q.x.2.dst ≠ some q'.d := hL.d q'.x (fl.uL _ h1) h3.isA q'.d h3.dst q.x zL (hL.ne zL (fl.uL _ h1) fun e => h2 (e ▸ zV))
        exact ⟨h1, fun h => h2 (dropU_mem.1 h).1, h3, by rw [env_put, if_neg hne]; exact h4, by rw [env_put, if_neg hne]; exact h5⟩
    · rw [List.map_cons, List.nodup_cons]
      refine ⟨fun h => ?_, fl.qn⟩
      obtain ⟨q', h1, h2⟩ := List.mem_map.1 h
      exact (fl.q q' h1).2.1 (by rw [h2]; exact zV)
    · by_cases hv : x ∈ V
      · refine ⟨q, by simp, ?_⟩
        by_cases e : x.1 = q.x.1
        · exact (hL.u x (fl.vL _ hv) q.x zL e).symm
        · exact absurd (dropU_mem.2 ⟨hv, e⟩) hn
      · obtain ⟨q', h1, h2⟩ := fl.uq x hx hv
        exact ⟨q', List.mem_cons_of_mem _ h1, h2⟩
    · rw [env_put]
      by_cases hi : q.x.2.dst = some i
      · rw [if_pos hi, fl.al q.x zU zA i hi]; exact .inl trivial
      · rw [if_neg hi]
        rcases fl.en i with h | ⟨z', h1, h2, h3⟩
        · exact .inl h
        · exact .inr ⟨z', dropU_mem.2 ⟨h1, hL.ne (fl.vL _ h1) zL fun e => h2 (e ▸ zU)⟩, h2, h3⟩
  have nx := next _ _ _ fl'
  cases hn : needI B M q.x.1 s m with
  | false => dsimp only; rw [condW_false]; exact nx
  | true =>
    dsimp only
    rw [condW_true]
    exact ⟨ki_of fl.le r' (fl.ki q.x (.inl ⟨zU, zA⟩) hn), nx⟩
/-- The machine goes ahead. -/
theorem mach_early (hL : RowA P L) (fl : Fl AT P GL w0 F cl L B M s m kp σ0 G U V E S Q σ ρ w) {x : Nat × Oper} (xU : x ∈ U) (xE : envOp x.2 = true) (c1 : dstIn (readsOf x.2) x = false) (c2 : clearG x G = true) (c3 : hangG B x G = true) {y : X} {S' : XS}
    (hx : xOp P GL cl x.2 (pickEs E (readsOf x.2)) S = .ok (y, S')) (hk : needI B M x.1 s m = true → keeps S.bs kp = true) :
    Fl AT P GL w0 F cl L B M s m kp σ0 ((x, pickEs E (readsOf x.2)) :: G) (dropU x.1 U) V (putX E x.2.dst y) S Q σ ρ w := by
  have xL := fl.uL x xU
  have xA := envOp_notA xE
  have xV : x ∈ V := Classical.byContradiction fun h => by
    obtain ⟨q, h1, h2⟩ := fl.uq x xU h
    have := (fl.q q h1).2.2.1.isA
    rw [h2, xA] at this
    cases this
  have xn : x ∉ dropU x.1 U := fun h => (dropU_mem.1 h).2 rfl
  refine ⟨fl.le, fun z hz => fl.uL z (dropU_mem.1 hz).1, fl.vL, fun q hq => ?_, fl.qn, fun z hz hn => fl.uq z (dropU_mem.1 hz).1 hn, fl.rep, fun i => ?_, fun z hz hn => ?_, fun p hp => ?_, fun p hp p' hp' hd => ?_, fun a ha hA d hd => ?_, fun z hz hn => ?_⟩
  · obtain ⟨h1, h2, h3⟩ := fl.q q hq
    exact ⟨dropU_mem.2 ⟨h1, hL.ne (fl.uL _ h1) xL fun e => h2 (e ▸ xV)⟩, h2, h3⟩
  · by_cases hi : x.2.dst = some i
    · exact .inr ⟨x, xV, xn, hi⟩
    · rw [getE_put, if_neg hi]
      rcases fl.en i with h | ⟨z, h1, h2, h3⟩
      · exact .inl h
      · exact .inr ⟨z, h1, fun h => h2 (dropU_mem.1 h).1, h3⟩
  · by_cases hu : z ∈ U
    · have : z = x := hL.u z (fl.uL _ hu) x xL (Classical.byContradiction fun e => hn (dropU_mem.2 ⟨hu, e⟩))
      subst this; exact ⟨_, List.mem_cons_self⟩
    · obtain ⟨Ez, h⟩ := fl.g z hz hu
      exact ⟨Ez, List.mem_cons_of_mem _ h⟩
  · rcases List.mem_cons.1 hp with rfl | hp
    · refine ⟨xL, xn, xE, ⟨y, (envOp_any xE hx).2, fun d hd => by rw [getE_put, if_pos hd]⟩, fun i => ?_⟩
      rw [getE_pick]
      split
      · rename_i hi
        rw [getE_put, if_neg]
        intro e
        rw [dstIn_iff.2 ⟨i, e, hi⟩] at c1
        cases c1
      · rfl
    · obtain ⟨h1, h2, h3, ⟨y', h4, h5⟩, h6⟩ := fl.rc p hp
      obtain ⟨k1, k2⟩ := clearG_out c2 p hp
      refine ⟨h1, fun h => h2 (dropU_mem.1 h).1, h3, ⟨y', h4, fun d hd => ?_⟩, fun i => ?_⟩
      · rw [getE_put, if_neg fun e => k2 d e hd]; exact h5 d hd
      · rw [h6 i]
        split
        · rename_i hi
          rw [getE_put, if_neg]
          intro e
          rw [dstIn_iff.2 ⟨i, e, hi⟩] at k1
          cases k1
        · rfl
  · rcases List.mem_cons.1 hp with rfl | hp
    · rcases List.mem_cons.1 hp' with rfl | hp'
      · rw [c1] at hd; cases hd
      · exact ⟨hangG_out c3 p' hp' hd, hL.ne (fl.rc p' hp').1 xL fun e => (fl.rc p' hp').2.1 (e ▸ xU)⟩
    · rcases List.mem_cons.1 hp' with rfl | hp'
      · rw [(clearG_out c2 p hp).1] at hd; cases hd
      · exact fl.hg p hp p' hp' hd
  · have hU := (dropU_mem.1 ha)
    rw [getE_put, if_neg]
    · exact fl.al a hU.1 hA d hd
    · exact hL.d a (fl.uL _ hU.1) hA d hd x xL fun e => hU.2 e.symm
  · rcases hz with ⟨h1, h2⟩ | ⟨p, hp, rfl⟩
    · exact fl.ki z (.inl ⟨(dropU_mem.1 h1).1, h2⟩) hn
    · rcases List.mem_cons.1 hp with rfl | hp
      · exact hk hn
      · exact fl.ki p.1 (.inr ⟨p, hp, rfl⟩) hn
/-- What stays of what is remembered, where x yields something. -/
theorem rc_keep {x : Nat × Oper} {y : X} {E1 : XE} {G' : XG} (hG' : ∀ p ∈ G', p ∈ G) (fl : Fl AT P GL w0 F cl L B M s m kp σ0 G U V E S Q σ ρ w) (c2 : clearG x G' = true) (hE : ∀ i, getE E1 i = if x.2.dst = some i then y else getE E i) :
    ∀ p ∈ G', p.1 ∈ L ∧ p.1 ∉ dropU x.1 U ∧ envOp p.1.2 = true ∧ (∃ y, (∀ S1, xOp P GL cl p.1.2 p.2 S1 = .ok (y, S1)) ∧ ∀ d, p.1.2.dst = some d → getE E1 d = y) ∧ ∀ i, getE p.2 i = if i ∈ readsOf p.1.2 then getE E1 i else .un := by
  intro p hp
  obtain ⟨h1, h2, h3, ⟨y', h4, h5⟩, h6⟩ := fl.rc p (hG' p hp)
  obtain ⟨k1, k2⟩ := clearG_out c2 p hp
  refine ⟨h1, fun h => h2 (dropU_mem.1 h).1, h3, ⟨y', h4, fun d hd => ?_⟩, fun i => ?_⟩
  · rw [hE, if_neg fun e => k2 d e hd]; exact h5 d hd
  · rw [h6 i]
    split
    · rename_i hi
      rw [hE, if_neg]
      intro e
      rw [dstIn_iff.2 ⟨i, e, hi⟩] at k1
      cases k1
    · rfl
/-- The machine makes a variable that the run has made already. -/
theorem mach_late (hL : RowA P L) (fl : Fl AT P GL w0 F cl L B M s m kp σ0 G U V E S Q σ ρ w) {x : Nat × Oper} (xU : x ∈ U) (xV : x ∉ V) (c2 : clearG x G = true) {E1 : XE} {S1 : XS}
    (hx : xOps P GL cl all [x.2] E S = .ok (E1, S1)) (hk : cond (anyNeed B M s m (onlyA (dropU x.1 U))) true (anyNeed B M s m (opsG G)) = true → keeps S1.bs kp = true) :
    ∃ Q' σ', σ.le σ' ∧ Fl AT P GL w0 F cl L B M s m kp σ0 G (dropU x.1 U) V E1 S1 Q' σ' ρ w := by
  have xL := fl.uL x xU
  obtain ⟨q, hq, hqx⟩ := fl.uq x xU xV
  subst hqx
  obtain ⟨-, -, ok, hv, hgd⟩ := fl.q q hq
  obtain ⟨Q1, Q2, hQ⟩ := List.append_of_mem hq
  have h1 : xOps P GL cl all [q.x.2] E S = .ok (putX E q.x.2.dst (.ptr S.nx 0), S.add (.bl q.t none (q.z.cells.toList.map of1))) := by
    unfold xOps
    rw [ok.gd]
    dsimp only
    unfold xOp
    rw [ok.op]
    dsimp only
    rw [ok.info]
    dsimp only
    rw [ok.zero]
    dsimp only
    rw [XS.addK_eq]
    simp only [R.bind, force2_eq]
    rfl
  rw [h1] at hx
  obtain ⟨e1, e2⟩ := Prod.mk.inj (R.ok.inj hx)
  subst e1 e2
  have hE : ∀ i, getE (putX E q.x.2.dst (.ptr S.nx 0)) i = if q.x.2.dst = some i then .ptr S.nx 0 else getE E i := fun i => getE_put _ _ _ _
  have hperm : (Q.map QEn.hp ++ F).Perm (q.hp :: ((Q1 ++ Q2).map QEn.hp ++ F)) := by
    rw [hQ, List.map_append, List.map_cons, List.map_append, List.append_assoc, List.cons_append, List.append_assoc]
    exact List.perm_middle
  have r0 : Rep AT P w0 ((Q1 ++ Q2).map QEn.hp ++ F) σ S w := ⟨by
    have d := fl.rep.d.perm ((hperm.append_left (S.bs.map (partB AT P σ))).trans List.perm_middle)
    exact d.tail, fl.rep.fresh⟩
  have r1 : Rep AT P w0 ((Q1 ++ Q2).map QEn.hp ++ F) (σ.add S.nx ⟨q.a, 0, 0, none⟩) (S.add (.bl q.t none (q.z.cells.toList.map of1))) w := by
    refine r0.grow ?_
    have d := fl.rep.d.perm ((hperm.append_left (S.bs.map (partB AT P σ))).trans List.perm_middle)
    refine d.hd fun h hh => ?_
    refine ⟨_, q.z.cells.toList, [], [], Sg.add_at _ _ _, DL.of1s _, ?_, rfl, rfl, rfl⟩
    simp only [List.nil_append, List.append_nil, Array.toArray_toList]
    exact hh
  have hle : σ.le (σ.add S.nx ⟨q.a, 0, 0, none⟩) := r0.le
  have hnd : (Q1 ++ Q2).map (·.x) = Q1.map (·.x) ++ Q2.map (·.x) := List.map_append
  have hn : (Q1.map (·.x) ++ q.x :: Q2.map (·.x)).Nodup := by
    have := fl.qn
    rw [hQ, List.map_append, List.map_cons] at this
    exact this
  have hn2 := (List.perm_middle.nodup_iff).1 hn
  rw [List.nodup_cons] at hn2
  have sub : ∀ q' ∈ Q1 ++ Q2, q' ∈ Q := fun q' h => by
    rw [hQ]
    rcases List.mem_append.1 h with h | h
    · exact List.mem_append_left _ h
    · exact List.mem_append_right _ (List.mem_cons_of_mem _ h)
  refine ⟨Q1 ++ Q2, _, hle, ⟨fl.le.trans hle, fun z hz => fl.uL z (dropU_mem.1 hz).1, fl.vL, fun q' hq' => ?_, by rw [hnd]; exact hn2.2, fun z hz hn => ?_, r1, fun i => ?_, fun z hz hn => ?_, rc_keep (fun _ h => h) fl c2 hE, fl.hg, fun a ha hA d hd => ?_, fun z hz hn => ?_⟩⟩
  · obtain ⟨k1, k2, k3⟩ := fl.q q' (sub q' hq')
    refine ⟨dropU_mem.2 ⟨k1, hL.ne (fl.uL _ k1) xL fun e => ?_⟩, k2, k3⟩
    refine hn2.1 ?_
    rw [← hnd, ← e]
    exact List.mem_map.2 ⟨q', hq', rfl⟩
  · obtain ⟨k1, k2⟩ := dropU_mem.1 hz
    obtain ⟨q', k3, k4⟩ := fl.uq z k1 hn
    refine ⟨q', ?_, k4⟩
    rw [hQ] at k3
    rcases List.mem_append.1 k3 with k3 | k3
    · exact List.mem_append_left _ k3
    · rcases List.mem_cons.1 k3 with rfl | k3
      · exact absurd (by rw [k4]) k2
      · exact List.mem_append_right _ k3
  · rw [hE]
    by_cases hi : q.x.2.dst = some i
    · rw [if_pos hi]
      rw [ok.dst] at hi
      cases hi
      exact .inl (.of (den_ptr.2 ⟨_, Sg.add_at _ _ _, rfl⟩) hv hgd)
    · rw [if_neg hi]
      rcases fl.en i with h | ⟨z, k1, k2, k3⟩
      · exact .inl (h.mono hle)
      · exact .inr ⟨z, k1, fun h => k2 (dropU_mem.1 h).1, k3⟩
  · refine fl.g z hz fun h => hn (dropU_mem.2 ⟨h, hL.ne (fl.uL _ h) xL fun e => xV (e ▸ hz)⟩)
  · have hU := dropU_mem.1 ha
    rw [hE, if_neg]
    · exact fl.al a hU.1 hA d hd
    · exact hL.d a (fl.uL _ hU.1) hA d hd q.x xL fun e => hU.2 e.symm
  · refine hk ?_
    rcases hz with ⟨k1, k2⟩ | ⟨p, hp, rfl⟩
    · rw [anyNeed_out z (onlyA_mem.2 ⟨k1, k2⟩) hn]; rfl
    · rw [anyNeed_out p.1 (opsG_mem hp) hn]; cases anyNeed B M s m (onlyA (dropU q.x.1 U)) <;> rfl
/-- Both do the same. -/
theorem both_turn (hAT : ∀ i c, (AT i c).oneCell' = true) (hG : GLok AT GL w0 F) (hH : ∀ Ls, HOk AT P w0 (Ls ++ F) cl) (hL : RowA P L) (fl : Fl AT P GL w0 F cl L B M s m kp σ0 G U V E S Q σ ρ w) {x : Nat × Oper} (xU : x ∈ U) (xV : x ∈ V) (hf : frontB B x.1 V = true) (c2 : clearG x (leftG B x G) = true) {E1 : XE} {S1 : XS}
    (hx : xTurn P GL cl all x.2 E S (leftG B x G) = .ok (E1, S1)) (hk : cond (needI B M x.1 s m) true (cond (anyNeed B M s m (onlyA (dropU x.1 U))) true (anyNeed B M s m (opsG (leftG B x G)))) = true → keeps S1.bs kp = true)
    (next : ∀ σ' ρ' w', σ.le σ' → Fl AT P GL w0 F cl L B M s m kp σ0 (leftG B x G) (dropU x.1 U) (dropU x.1 V) E1 S1 Q σ' ρ' w' → WCh P all B M (KI AT P w0 F σ0 kp) s m n (dropU x.1 V) ρ' C w') :
    WOps P all [x.2] ρ (fun ρ' => condW (needI B M x.1 s m) (CH (KI AT P w0 F σ0 kp) (WCh P all B M (KI AT P w0 F σ0 kp) s m n (dropU x.1 V) ρ' C)) (WCh P all B M (KI AT P w0 F σ0 kp) s m n (dropU x.1 V) ρ' C)) w := by
  have xL := fl.uL x xU
  obtain ⟨Em, E0, hEm, h0, hE1⟩ := xTurn_out hx
  have he : EnvR AT σ Em ρ := fun i => by
    rw [hEm]
    split
    · exact trivial
    · rename_i hi
      rcases fl.en i with h | ⟨z, h1, h2, h3⟩
      · exact h
      · obtain ⟨Ez, hz⟩ := fl.g z h1 h2
        refine absurd (dstsA_mem.2 ⟨z, opsG_mem (leftG_mem.2 ⟨hz, ?_⟩), h3⟩) hi
        exact frontB_out hf z h1 (hL.ne (fl.vL _ h1) xL fun e => h2 (e ▸ xU))
  refine op1_ok hAT (hG.app _) (hH _) he fl.rep h0 fun σ' ρ1 s1 w' y hl r' e1 hrel hρ => ?_
  have hE := hE1 y e1
  have ne : ∀ z, z ∉ U → z ∈ L → z.1 ≠ x.1 := fun z hz hzL => hL.ne hzL xL fun e => hz (e ▸ xU)
  have fl' : Fl AT P GL w0 F cl L B M s m kp σ0 (leftG B x G) (dropU x.1 U) (dropU x.1 V) E1 S1 Q σ' (ρ1.put x.2.dst s1) w' := by
    refine ⟨fl.le.trans hl, fun z hz => fl.uL z (dropU_mem.1 hz).1, fun z hz => fl.vL z (dropU_mem.1 hz).1, fun q hq => ?_, fl.qn, fun z hz hn => ?_, r', fun i => ?_, fun z hz hn => ?_, rc_keep (fun _ h => (leftG_mem.1 h).1) fl c2 hE, fun p hp p' hp' => fl.hg p (leftG_mem.1 hp).1 p' (leftG_mem.1 hp').1, fun a ha hA d hd => ?_, fun z hz hn => ?_⟩
    · obtain ⟨h1, h2, h3, h4, h5⟩ := fl.q q hq
      have hq1 : x.1 ≠ q.x.1 := hL.ne xL (fl.uL _ h1) fun e => h2 (e ▸ xV)
      have hne : x.2.dst ≠ some q.d := hL.d q.x (fl.uL _ h1) h3.isA q.d h3.dst x xL hq1
      have : (ρ1.put x.2.dst s1) q.d = ρ q.d := by rw [env_put, if_neg hne]; exact same_v (hρ q.d) h4
      exact ⟨dropU_mem.2 ⟨h1, hq1.symm⟩, fun h => h2 (dropU_mem.1 h).1, h3, by rw [this]; exact h4, by rw [this]; exact h5⟩
    · obtain ⟨h1, h2⟩ := dropU_mem.1 hz
      exact fl.uq z h1 fun h => hn (dropU_mem.2 ⟨h, h2⟩)
    · rw [env_put, hE]
      by_cases hi : x.2.dst = some i
      · rw [if_pos hi, if_pos hi]; exact .inl hrel
      · rw [if_neg hi, if_neg hi]
        rcases fl.en i with h | ⟨z, h1, h2, h3⟩
        · exact .inl ((rel_kn (hρ i) h).mono hl)
        · exact .inr ⟨z, dropU_mem.2 ⟨h1, ne z h2 (fl.vL _ h1)⟩, fun h => h2 (dropU_mem.1 h).1, h3⟩
    · obtain ⟨h1, h2⟩ := dropU_mem.1 hz
      obtain ⟨Ez, h3⟩ := fl.g z h1 fun h => hn (dropU_mem.2 ⟨h, h2⟩)
      exact ⟨Ez, leftG_mem.2 ⟨h3, frontB_out hf z h1 h2⟩⟩
    · have hU := dropU_mem.1 ha
      rw [hE, if_neg]
      · exact fl.al a hU.1 hA d hd
      · exact hL.d a (fl.uL _ hU.1) hA d hd x xL fun e => hU.2 e.symm
    · refine hk ?_
      rcases hz with ⟨k1, k2⟩ | ⟨p, hp, rfl⟩
      · rw [anyNeed_out z (onlyA_mem.2 ⟨k1, k2⟩) hn]; cases needI B M x.1 s m <;> rfl
      · rw [anyNeed_out p.1 (opsG_mem hp) hn]; cases needI B M x.1 s m <;> cases anyNeed B M s m (onlyA (dropU x.1 U)) <;> rfl
  have nx := next σ' _ w' hl fl'
  cases hn : needI B M x.1 s m with
  | false => rw [condW_false]; exact nx
  | true =>
    rw [condW_true]
    exact ⟨ki_of (fl.le.trans hl) r' (hk (by rw [hn]; rfl)), nx⟩
theorem next_early {x : Nat × Oper} (h : nextOp B U = .early x) : x ∈ U ∧ envOp x.2 = true := by
  unfold nextOp at h
  split at h
  · split at h
    · split at h <;> cases h
    · cases h
  · split at h <;> cases h
  · split at h
    · rename_i y hy
      cases h
      obtain ⟨h1, h2⟩ := firstE_out hy
      exact ⟨(nonA_mem.1 (fronts_out h1).1).1, h2⟩
    · cases h
theorem next_turn {x : Nat × Oper} (h : nextOp B U = .turn x) : x ∈ U ∧ isA x = false ∧ ∀ z ∈ fronts B (nonA U) (nonA U), z = x := by
  unfold nextOp at h
  split at h
  · split at h
    · split at h <;> cases h
    · cases h
  · rename_i y hy
    split at h
    · cases h
      have := fronts_out (x := x) (by rw [hy]; simp)
      obtain ⟨h1, h2⟩ := nonA_mem.1 this.1
      exact ⟨h1, h2, fun z hz => by rw [hy] at hz; exact List.mem_singleton.1 hz⟩
    · cases h
  · split at h <;> cases h
theorem next_late {x : Nat × Oper} (h : nextOp B U = .late x) : x ∈ U ∧ isA x = true ∧ ∀ z ∈ fronts B (nonA U) (nonA U), dep B x.1 z.1 = true ∧ x.1 ≠ z.1 := by
  unfold nextOp at h
  split at h
  · rename_i hf
    split at h
    · split at h
      · rename_i a r ha
        cases h
        obtain ⟨h1, h2⟩ := onlyA_mem.1 (show x ∈ onlyA U by rw [ha]; simp)
        exact ⟨h1, h2, fun z hz => by rw [hf] at hz; cases hz⟩
      · cases h
    · cases h
  · rename_i y hy
    split at h
    · cases h
    · rename_i a ha
      cases h
      obtain ⟨h1, h2, h3⟩ := firstD_out ha
      obtain ⟨h4, h5⟩ := onlyA_mem.1 h1
      refine ⟨h4, h5, fun z hz => ?_⟩
      rw [hy] at hz
      rw [List.mem_singleton.1 hz]
      exact ⟨h2, h3⟩
  · split at h <;> cases h
theorem Fl.front (fl : Fl AT P GL w0 F cl L B M s m kp σ0 G U V E S Q σ ρ w) {z : Nat × Oper} (zU : z ∈ U) (zA : isA z = false) (hf : frontB B z.1 V = true) : z ∈ fronts B (nonA U) (nonA U) := by
  refine fronts_mem (frontB_iff fun y hy hn => frontB_out hf y ?_ hn) (nonA_mem.2 ⟨zU, zA⟩)
  obtain ⟨h1, h2⟩ := nonA_mem.1 hy
  refine Classical.byContradiction fun h => ?_
  obtain ⟨q, h3, h4⟩ := fl.uq y h1 h
  have := (fl.q q h3).2.2.1.isA
  rw [h4, h2] at this
  cases this
theorem ch_ok (hAT : ∀ i c, (AT i c).oneCell' = true) (hG : GLok AT GL w0 F) (hH : ∀ Ls, HOk AT P w0 (Ls ++ F) cl) (hL : RowA P L) {E' : XE} {S' : XS} : ∀ (N k n : Nat) (G : XG) (U V : List (Nat × Oper)) (E : XE) (S : XS) (Q : List QEn) (σ : Sg) (ρ : Env) (w : World), k + n < N → V.length ≤ n → Fl AT P GL w0 F cl L B M s m kp σ0 G U V E S Q σ ρ w →
    xCh P GL cl all B M kp s m k G U E S = .ok (E', S') → (∀ σ' ρ' w', σ.le σ' → Rep AT P w0 F σ' S' w' → EnvR AT σ' E' ρ' → C ρ' w') → WCh P all B M (KI AT P w0 F σ0 kp) s m n V ρ C w
  | 0, k, n, G, U, V, E, S, Q, σ, ρ, w, hN, _, _, _, _ => absurd hN (Nat.not_lt_zero _)
  | N + 1, k, n, G, U, V, E, S, Q, σ, ρ, w, hN, hn, fl, h, fin => by
    have real : ∀ n', n = n' + 1 → V ≠ [] → (∀ x ∈ U, x ∈ V → isA x = false → frontB B x.1 V = true → WOps P all [x.2] ρ (fun ρ' => condW (needI B M x.1 s m) (CH (KI AT P w0 F σ0 kp) (WCh P all B M (KI AT P w0 F σ0 kp) s m n' (dropU x.1 V) ρ' C)) (WCh P all B M (KI AT P w0 F σ0 kp) s m n' (dropU x.1 V) ρ' C)) w) → WCh P all B M (KI AT P w0 F σ0 kp) s m n V ρ C w := by
      intro n' e hV xs
      subst e
      unfold WCh
      cases hVe : V with
      | nil => exact absurd hVe hV
      | cons v V' =>
        dsimp only
        rw [← hVe]
        refine allW_of fun A hA => ?_
        obtain ⟨z, hz, rfl⟩ := List.mem_map.1 hA
        obtain ⟨zV, hf⟩ := fronts_out hz
        have hlen : (dropU z.1 V).length ≤ n' := by
          have := dropU_len.2 ⟨z, zV, rfl⟩
          omega
        by_cases zU : z ∈ U
        · cases zA : isA z with
          | true => exact real_late hL fl zV zU zA fun Q' ρ' w' fl' => ch_ok hAT hG hH hL N k n' G U _ E S Q' σ ρ' w' (by omega) hlen fl' h fin
          | false => exact xs z zU zV zA hf
        · exact real_early hAT hG hH hL fl zV zU hf fun σ' ρ' w' hl fl' => ch_ok hAT hG hH hL N k n' G U _ E S Q σ' ρ' w' (by omega) hlen fl' h fun σ'' ρ'' w'' hl' => fin σ'' ρ'' w'' (hl.trans hl')
    have suc : V ≠ [] → ∃ n', n = n' + 1 := fun hV => by
      cases n with
      | zero => exact absurd (List.length_eq_zero_iff.1 (by omega)) hV
      | succ n' => exact ⟨n', rfl⟩
    cases hUe : U with
    | nil =>
      have hES : E' = E ∧ S' = S := by
        rw [hUe] at h
        cases k with
        | zero => cases h; exact ⟨rfl, rfl⟩
        | succ k => cases h; exact ⟨rfl, rfl⟩
      obtain ⟨rfl, rfl⟩ := hES
      by_cases hV : V = []
      · have hQ : Q = [] := by
          cases Q with
          | nil => rfl
          | cons q r =>
            have := (fl.q q (by simp)).1
            rw [hUe] at this
            cases this
        have done : C ρ w := fin σ ρ w (Sg.le.refl σ) (by have := fl.rep; rw [hQ] at this; exact this) fun i => by
          rcases fl.en i with h | ⟨z, h1, _⟩
          · exact h
          · rw [hV] at h1; cases h1
        rw [hV]
        cases n with
        | zero => exact done
        | succ n => exact done
      · obtain ⟨n', e⟩ := suc hV
        exact real n' e hV fun x hx => by rw [hUe] at hx; cases hx
    | cons u U' =>
      cases k with
      | zero => rw [hUe] at h; cases h
      | succ k =>
        have h0 := h
        rw [hUe] at h0
        unfold xCh at h0
        dsimp only at h0
        rw [← hUe] at h0
        clear hUe
        split at h0
        · rename_i x hx
          obtain ⟨xU, xE⟩ := next_early hx
          replace h0 := need_ok h0
          obtain ⟨c, h0⟩ := h0
          obtain ⟨⟨y, S1⟩, h1, h0⟩ := R.bind_ok h0
          rw [force2_eq] at h0
          replace h0 := need_ok h0
          obtain ⟨hk, h0⟩ := h0
          have c1 : dstIn (readsOf x.2) x = false := by
            cases hc : dstIn (readsOf x.2) x with
            | false => rfl
            | true => rw [hc] at c; cases c
          rw [c1, cond_false] at c
          have c2 : clearG x G = true := by
            cases hc : clearG x G with
            | true => rfl
            | false => rw [hc] at c; cases c
          rw [c2, cond_true] at c
          have c3 : hangG B x G = true := by
            cases hc : hangG B x G with
            | true => rfl
            | false => rw [hc] at c; cases c
          have hkk : needI B M x.1 s m = true → keeps S.bs kp = true := fun e => by rw [e] at hk; exact hk
          have fl' := mach_early hL fl xU xE c1 c2 c3 h1 hkk
          exact ch_ok hAT hG hH hL N k n _ _ V _ S Q σ ρ w (by omega) hn fl' h0 fin
        · rename_i x hx
          obtain ⟨xU, xA, xu⟩ := next_turn hx
          replace h0 := need_ok h0
          obtain ⟨c2, h0⟩ := h0
          obtain ⟨⟨E1, S1⟩, h1, h0⟩ := R.bind_ok h0
          replace h0 := need_ok h0
          obtain ⟨hk, h0⟩ := h0
          have xV : x ∈ V := Classical.byContradiction fun hv => by
            obtain ⟨q, h3, h4⟩ := fl.uq x xU hv
            have := (fl.q q h3).2.2.1.isA
            rw [h4, xA] at this
            cases this
          have hV : V ≠ [] := fun e => by rw [e] at xV; cases xV
          obtain ⟨n', e⟩ := suc hV
          refine real n' e hV fun z zU zV zA hf => ?_
          have := xu z (fl.front zU zA hf)
          subst this
          refine both_turn hAT hG hH hL fl zU zV hf c2 h1 (fun e => by rw [e] at hk; exact hk) fun σ' ρ' w' hl fl' => ?_
          have hlen : (dropU z.1 V).length ≤ n' := by
            have := dropU_len.2 ⟨z, zV, rfl⟩
            omega
          exact ch_ok hAT hG hH hL N k n' _ _ _ _ S1 Q σ' ρ' w' (by omega) hlen fl' h0 fun σ'' ρ'' w'' hl' => fin σ'' ρ'' w'' (hl.trans hl')
        · rename_i x hx
          obtain ⟨xU, xA, xu⟩ := next_late hx
          by_cases xV : x ∈ V
          · have hV : V ≠ [] := fun e => by rw [e] at xV; cases xV
            obtain ⟨n', e⟩ := suc hV
            refine real n' e hV fun z zU zV zA hf => ?_
            obtain ⟨h3, h4⟩ := xu z (fl.front zU zA hf)
            have := frontB_out hf x xV h4
            rw [h3] at this
            cases this
          · replace h0 := need_ok h0
            obtain ⟨c2, h0⟩ := h0
            obtain ⟨⟨E1, S1⟩, h1, h0⟩ := R.bind_ok h0
            replace h0 := need_ok h0
            obtain ⟨hk, h0⟩ := h0
            obtain ⟨Q', σ', hl, fl'⟩ := mach_late hL fl xU xV c2 h1 (fun e => by rw [e] at hk; exact hk)
            exact ch_ok hAT hG hH hL N k n _ _ V _ S1 Q' σ' ρ w (by omega) hn fl' h0 fun σ'' ρ'' w'' hl' => fin σ'' ρ'' w'' (hl.trans hl')
        · cases h0
end
theorem base_any {σ : Sg} {md : List Nat} {E : XE} {ρ : Env} (he : EnvR AT σ E ρ) : EnvR AT σ (baseE md E) ρ := fun i => by
  rw [getE_bas]
  split
  · exact trivial
  · exact he i
/-- A part of a drawn region: its environment and memory afterwards. -/
theorem seg_run (hAT : ∀ i c, (AT i c).oneCell' = true) (hG : GLok AT GL w0 F) (hH : ∀ Ls, HOk AT P w0 (Ls ++ F) cl) {all : List Oper} {B : List Nat} {s : List Oper} {m M : Nat} {E E' : XE} {ρ : Env} {σ : Sg} {S S' : XS} {w : World} (he : EnvR AT σ E ρ) (r : Rep AT P w0 F σ S w) (h : xSeg P GL cl all B s m M E S = .ok (E', S'))
    {C : Env → WP} (k : ∀ σ' ρ' w', σ.le σ' → Rep AT P w0 F σ' S' w' → EnvR AT σ' E' ρ' → C ρ' w') : segOk B M m s.length = true ∧ QtC (fun I => WRd P all M I s m ρ fun ρ' => WCh P all B M I s m (chL M s m).length (chL M s m) ρ' C) w := by
  unfold xSeg at h
  replace h := need_ok h
  obtain ⟨h1, h⟩ := h
  refine ⟨h1, ?_⟩
  split at h
  · rename_i hU
    replace h := R.bind_ok h
    obtain ⟨E1, h3, h4⟩ := h
    cases h4
    rw [hU]
    exact ⟨KI AT P w0 F σ S.bs, ⟨σ, Sg.le.refl σ, r.d⟩, rd_ok hAT hG r.d (fun ρ' he' => k σ ρ' w (Sg.le.refl σ) r he') s m E ρ he h3⟩
  · replace h := need_ok h
    obtain ⟨h2, h⟩ := h
    replace h := R.bind_ok h
    obtain ⟨E1, h3, h⟩ := h
    replace h := R.bind_ok h
    obtain ⟨E2, h4, h5⟩ := h
    rw [baseK_eq] at h5
    replace h5 := need_ok h5
    obtain ⟨hk, h5⟩ := h5
    have d' : D w0 ((keepN (namesR M E1 s m) S.bs).map (partB AT P σ) ++ F) w := ⟨keep_sat _ r.d.1, r.d.2⟩
    refine ⟨KI AT P w0 F σ (keepN (namesR M E1 s m) S.bs), ⟨σ, Sg.le.refl σ, d'⟩, ?_⟩
    refine rd_ok (S := ⟨S.nx, keepN (namesR M E1 s m) S.bs⟩) hAT hG d' (fun ρ' he' => ?_) s m E ρ he h4
    refine ch_ok hAT hG hH (rowA_of h2) (2 * (chL M s m).length + 1) _ _ [] _ _ _ S [] σ ρ' w (by omega) (Nat.le_refl _) ?_ h5 k
    refine ⟨Sg.le.refl σ, fun _ h => h, fun _ h => h, (fun q hq => by cases hq), List.nodup_nil, fun x h h' => absurd h h', r, fun i => .inl (base_any he' i), fun z h h' => absurd h h', (fun p hp => by cases hp), (fun p hp => by cases hp), fun a ha hA d hd => ?_, fun z hz hn => ?_⟩
    · rw [getE_bas, if_pos (hasN_iff.2 (dstsA_mem.2 ⟨a, onlyA_mem.2 ⟨ha, hA⟩, hd⟩))]
    · rcases hz with ⟨h1, h2⟩ | ⟨p, hp, _⟩
      · rw [anyNeed_out z (onlyA_mem.2 ⟨h1, h2⟩) hn] at hk; exact hk
      · cases hp
end
end Go.Jac
