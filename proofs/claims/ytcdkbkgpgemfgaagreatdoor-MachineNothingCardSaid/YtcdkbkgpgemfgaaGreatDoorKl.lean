/- Codes are right. -/
import Derived.Test.YtcdkbkgpgemfgaaGreatDoorKv
set_option maxRecDepth 100000
namespace Go.Jac
open Go

section
variable {AT : Nat → Nat → Value} {P : Program} {GL : Gv} {w0 : World} {F : List HP} {cl : Bool → Nat → List X → XS → R (X × XS)}
theorem cnd_w {x : SV} {c : Bool} {A B : WP} {w : World} (hv : x.v = .bool c) (hg : x.Good) (h1 : c = true → A w) (h2 : c = false → B w) : CndW x A B w := by
  obtain ⟨kn, v⟩ := x
  change v = .bool c at hv
  subst hv
  unfold CndW
  cases kn with
  | tt =>
    have this : Value.bool c = .bool true := hg
    cases this
    exact h1 rfl
  | ff =>
    have this : Value.bool c = .bool false := hg
    cases this
    exact h2 rfl
  | un => exact absurd rfl (hg c)
  | unk => exact ⟨c, rfl, h1, h2⟩
theorem getE_base {md : List Nat} : ∀ (E : XE) (i : Nat), getE (baseE md E) i = if hasN md i = true then .un else getE E i
  | [], i => by
    show X.un = _
    split <;> rfl
  | (j, x) :: r, i => by
    unfold baseE
    cases hj : hasN md j with
    | true =>
      rw [cond_true, getE_base r i, getE_cons]
      by_cases e : i = j
      · subst e; rw [hj]; simp
      · rw [if_neg e]
    | false =>
      rw [cond_false, getE_cons, getE_cons, getE_base r i]
      by_cases e : i = j
      · subst e; rw [hj]; simp
      · rw [if_neg e, if_neg e]
theorem base_rel {σ : Sg} {md : List Nat} {E : XE} {ρ : Env} (he : EnvR AT σ E ρ) (j : Env) : EnvR AT σ (baseE md E) (mix md j ρ) := fun i => by
  rw [getE_base]
  cases h : hasN md i with
  | true => exact trivial
  | false =>
    unfold mix
    rw [h]
    exact he i
theorem noUn_rel {σ : Sg} {x : X} {s : SV} (h : RelX AT σ x s) : RelX AT σ (noUn x) (dy s.v) := by
  cases x <;> first | exact trivial | (obtain ⟨v, h1, h2, _⟩ := h; exact .of h1 h2 trivial)
theorem unp_ok {σ : Sg} {E1 : XE} {ρ1 : Env} (h1 : EnvR AT σ E1 ρ1) {w : World} {Body : Env → WP} : ∀ (lv : List Nat) (B : XE) (ρb : Env), EnvR AT σ B ρb → (∀ ρ', EnvR AT σ (liveE E1 lv B) ρ' → Body ρ' w) → unp lv (vals ρ1 lv) ρb Body w
  | [], B, ρb, hb, k => k ρb hb
  | i :: r, B, ρb, hb, k => by
    show unp r (vals ρ1 r) (ρb.upd i (dy (ρ1 i).v)) Body w
    exact unp_ok h1 r _ _ (hb.cons i (noUn_rel (h1 i))) k
theorem seg_ok (hAT : ∀ i c, (AT i c).oneCell' = true) (hG : GLok AT GL w0 F) (hH : ∀ Ls, HOk AT P w0 (Ls ++ F) cl) {all : List Oper} {B A : List Nat} {s : List Oper} {m M : Nat} {E E1 : XE} {ρ : Env} {σ : Sg} {S S1 : XS} {w : World} {kk : XE → XS → R (XE × XS)} {z : XE × XS} (he : EnvR AT σ E ρ) (r : Rep AT P w0 F σ S w) (h : xSeg P GL cl all B s m M E S = .ok (E1, S1))
    (hj : xJoin B A s m M E (E1, S1) kk = .ok z) {C : Env → WP} (k : ∀ E2 σ' ρ' w', σ.le σ' → Rep AT P w0 F σ' S1 w' → EnvR AT σ' E2 ρ' → kk E2 S1 = .ok z → C ρ' w') : WSeg P all B A s m M ρ C w := by
  unfold xJoin at hj
  unfold WSeg
  cases hb : rowB B (chL M s m) with
  | true =>
    rw [hb, cond_true] at hj
    have := seg_run hAT hG hH he r h fun σ' ρ' w' hl r' he' => k E1 σ' ρ' w' hl r' he' hj
    rw [this.1, cond_true, cond_true]
    exact this.2
  | false =>
    rw [hb, cond_false, baseK_eq, liveK_eq] at hj
    have h1 : segOk B M m s.length = true := (seg_run (C := fun _ _ => True) hAT hG hH he r h fun _ _ _ _ _ _ => trivial).1
    rw [h1, cond_true, cond_false]
    intro K hK
    refine (seg_run (C := fun ρ'' => K (vals ρ'' (liveL (dsts s) A))) hAT hG hH he r h fun σ' ρ' w' hl r' he' => ?_).2
    refine hK _ _ fun j => unp_ok he' _ _ _ (base_rel (he.mono hl) j) fun ρ2 he2 => ?_
    exact k _ σ' ρ2 w' hl r' he2 hj
theorem dr_ok (hAT : ∀ i c, (AT i c).oneCell' = true) (hG : GLok AT GL w0 F) (hH : ∀ Ls, HOk AT P w0 (Ls ++ F) cl) {all : List Oper} {B A : List Nat} {E' : XE} {S' : XS} {C : Env → WP} :
    ∀ (sg : List (List Oper)) (m : Nat) (E : XE) (ρ : Env) (σ : Sg) (S : XS) (w : World), EnvR AT σ E ρ → Rep AT P w0 F σ S w → xDr P GL cl all B A sg m E S = .ok (E', S') → (∀ σ' ρ' w', σ.le σ' → Rep AT P w0 F σ' S' w' → EnvR AT σ' E' ρ' → C ρ' w') → WDr P all B A sg m ρ C w
  | [], m, E, ρ, σ, S, w, he, r, h, k => by cases h; exact k σ ρ w (Sg.le.refl σ) r he
  | [] :: l, m, E, ρ, σ, S, w, he, r, h, k => by
    obtain ⟨⟨E1, S1⟩, h1, h2⟩ := R.bind_ok h
    exact seg_ok hAT hG hH he r h1 h2 fun E2 σ' ρ' w' hl r' he' h3 => dr_ok hAT hG hH l _ E2 ρ' σ' S1 w' he' r' h3 fun σ'' ρ'' w'' hl' => k σ'' ρ'' w'' (hl.trans hl')
  | [o] :: l, m, E, ρ, σ, S, w, he, r, h, k => by
    obtain ⟨⟨E1, S1⟩, h1, h2⟩ := R.bind_ok h
    exact ops_ok hAT hG (hH []) [o] E ρ σ S w he r h1 _ fun σ' ρ' w' hl r' he' => dr_ok hAT hG hH l _ E1 ρ' σ' S1 w' he' r' h2 fun σ'' ρ'' w'' hl' => k σ'' ρ'' w'' (hl.trans hl')
  | (o1 :: o2 :: s) :: l, m, E, ρ, σ, S, w, he, r, h, k => by
    obtain ⟨⟨E1, S1⟩, h1, h2⟩ := R.bind_ok h
    exact seg_ok hAT hG hH he r h1 h2 fun E2 σ' ρ' w' hl r' he' h3 => dr_ok hAT hG hH l _ E2 ρ' σ' S1 w' he' r' h3 fun σ'' ρ'' w'' hl' => k σ'' ρ'' w'' (hl.trans hl')
theorem exSel_of {Q : Nat → WP} {i : Nat} {w : World} (hq : Q i w) : ∀ (l : List Nat), exHas l i = true → exSel l Q i w
  | [], h => by cases h
  | x :: r, h => by
    unfold exHas at h
    unfold exSel
    cases hb : Nat.beq i x with
    | true =>
      have := beq_eq hb
      subst this
      rw [condW_true]; exact hq
    | false =>
      rw [hb] at h
      rw [condW_false]
      exact exSel_of hq r h
theorem addMk_rel {σ : Sg} {y m : X} {s : SV} {mv : Value} (h : RelX AT σ y s) (hm : den AT σ m = some mv) : RelX AT σ (addMk y m) (dy (addMark s.v mv)) := by
  cases y with
  | tup xs =>
    obtain ⟨v, h1, h2, _⟩ := h
    obtain ⟨vs, h3, rfl⟩ := den_tup.1 h1
    rw [h2]
    exact .dy (den_tup.2 ⟨mv :: vs, DL.cons hm h3, by simp [addMark]⟩)
  | _ => exact trivial
/-- A loop ends; its record is forgotten. -/
theorem Rep.endLp {σ : Sg} {S : XS} {w : World} {l : Nat} {i : LpI} {st : LoopState} {p : PX} (r : Rep AT P w0 F σ S w) (hf : findB S.bs l = some (.lp i st p)) : ∃ g lp r0, σ l = some g ∧ g.lp = some r0 ∧ isLp w g.ad lp ∧ sameLp lp r0 ∧ lp.state = st ∧ pendOk p lp.pending ∧
    ∀ o, Rep AT P w0 F σ (S.del l) (World.put' w g.ad o) := by
  obtain ⟨L, d, _, h2⟩ := r.d.takeB hf
  obtain ⟨⟨hh1, hh2, s, ⟨g, lp, r0, ρ, e1, e2, e3, e4, e5, e6, e7, e8⟩, l⟩, kp⟩ := d
  have d : D w0 (pts g.ad (.loop lp) :: L) w := ⟨⟨hh1, hh2, s, e3, l⟩, kp⟩
  refine ⟨g, lp, r0, e1, e2, d.at_, e4, e5, e6, fun o => ⟨?_, r.fresh⟩⟩
  have := (d.put (o' := o)).tail
  rw [h2] at this
  exact this
theorem code_ok (hAT : ∀ i c, (AT i c).oneCell' = true) (hG : GLok AT GL w0 F) (hH : ∀ Ls, HOk AT P w0 (Ls ++ F) cl) {n lf : Nat} {inR : Bool} {ro : Option Nat} (hro : inR = ro.isSome) : ∀ (c : Code) (A : List Nat) (E : XE) (ρ : Env) (σ : Sg) (S : XS) (w : World) (e : Exit) (E' : XE) (S' : XS),
    EnvR AT σ E ρ → Rep AT P w0 F σ S w → xCode P GL cl n lf inR c A E S = .ok (e, E', S') → ∀ Q : Exit → Env → WP, (∀ σ' ρ' w', σ.le σ' → Rep AT P w0 F σ' S' w' → EnvR AT σ' E' ρ' → Q e ρ' w') → W P n c ro A ρ Q w := by
  intro c
  induction c with
  | skip => intro A E ρ σ S w e E' S' he r h Q k; cases h; exact k σ ρ w (Sg.le.refl σ) r he
  | label _ => intro A E ρ σ S w e E' S' he r h Q k; cases h; exact k σ ρ w (Sg.le.refl σ) r he
  | ret => intro A E ρ σ S w e E' S' he r h Q k; cases h; exact k σ ρ w (Sg.le.refl σ) r he
  | exit i => intro A E ρ σ S w e E' S' he r h Q k; cases h; exact k σ ρ w (Sg.le.refl σ) r he
  | region id ops draw =>
    intro A E ρ σ S w e E' S' he r h Q k
    cases draw with
    | false =>
      unfold xCode at h
      obtain ⟨⟨E1, S1⟩, h1, h2⟩ := R.bind_ok h
      cases h2
      exact ops_ok hAT hG (hH []) ops.toList E ρ σ S w he r h1 _ k
    | true =>
      obtain ⟨h0, h1⟩ := need_ok (show need (drawOk ops.toList) 171 _ = _ from h)
      obtain ⟨⟨E1, S1⟩, h2, h3⟩ := R.bind_ok h1
      cases h3
      unfold W
      rw [h0, condW_true]
      exact dr_ok hAT hG hH _ 0 E ρ σ S w.drew he r.drew h2 k
  | seq a b iha ihb =>
    intro A E ρ σ S w e E' S' he r h Q k
    obtain ⟨⟨e1, E1, S1⟩, h1, h2⟩ := R.bind_ok (show (R.bind (xCode P GL cl n lf inR a (ue b ++ A) E S) _) = _ from h)
    dsimp only at h2
    unfold W
    cases hj : joinN a b with
    | false =>
      rw [condW_false]
      refine iha (ue b ++ A) E ρ σ S w e1 E1 S1 he r h1 _ fun σ' ρ' w' hl r' he' => ?_
      cases e1 with
      | normal =>
        dsimp only at h2
        rw [hj, cond_false] at h2
        exact ihb A E1 ρ' σ' S1 w' e E' S' he' r' h2 Q fun σ'' ρ'' w'' hl' => k σ'' ρ'' w'' (hl.trans hl')
      | _ => cases h2; exact k σ' ρ' w' hl r' he'
    | true =>
      rw [condW_true]
      intro K hK
      refine iha (ue b ++ A) E ρ σ S w e1 E1 S1 he r h1 _ fun σ' ρ' w' hl r' he' => ?_
      cases e1 with
      | normal =>
        dsimp only at h2
        rw [hj, cond_true, baseK_eq, liveK_eq] at h2
        refine hK _ _ fun j => unp_ok he' _ _ _ (base_rel (he.mono hl) j) fun ρ2 he2 => ?_
        exact ihb A _ ρ2 σ' S1 w' e E' S' he2 r' h2 Q fun σ'' ρ'' w'' hl' => k σ'' ρ'' w'' (hl.trans hl')
      | _ => cases h2; exact k σ' ρ' w' hl r' he'
  | cond c a b iha ihb =>
    intro A E ρ σ S w e E' S' he r h Q k
    have hrel := op_rel he c
    unfold xCode at h
    unfold W
    split at h
    · rename_i hc
      rw [hc] at hrel
      obtain ⟨v, v1, v2, v3⟩ := hrel
      cases den_bool.1 v1
      exact cnd_w v2 v3 (fun _ => iha A E ρ σ S w e E' S' he r h Q k) (fun e => by cases e)
    · rename_i hc
      rw [hc] at hrel
      obtain ⟨v, v1, v2, v3⟩ := hrel
      cases den_bool.1 v1
      exact cnd_w v2 v3 (fun e => by cases e) (fun _ => ihb A E ρ σ S w e E' S' he r h Q k)
    · cases h
  | block id c ih =>
    intro A E ρ σ S w e E' S' he r h Q k
    obtain ⟨⟨e1, E1, S1⟩, h1, h2⟩ := R.bind_ok (show (R.bind (xCode P GL cl n lf inR c A E S) _) = _ from h)
    unfold W
    refine ih A E ρ σ S w e1 E1 S1 he r h1 _ fun σ' ρ' w' hl r' he' => ?_
    unfold blockX
    cases e1 with
    | exit i =>
      dsimp only at h2 ⊢
      cases h2
      have := k σ' ρ' w' hl r' he'
      cases hi : Nat.beq i id with
      | true => rw [hi] at this; rw [condW_true]; exact this
      | false => rw [hi] at this; rw [condW_false]; exact this
    | _ => cases h2; exact k σ' ρ' w' hl r' he'
  | scope c ih =>
    intro A E ρ σ S w e E' S' he r h Q k
    exact ih A E ρ σ S w e E' S' he r h Q k
  | loop c ih =>
    intro A E ρ σ S w e E' S' he r h Q k
    let lv := liveL (mods c) (ue c ++ A)
    let base := baseE (mods c) E
    let body : XE → XS → R (Exit × XE × XS) := fun E S => xCode P GL cl n lf inR c (ue c ++ A) E S
    have h : xIter body lv base lf (liveE E lv base) S = .ok (e, E', S') := by
      unfold xCode at h
      rw [baseK_eq, liveK_eq] at h
      exact h
    show LoopC (vals ρ lv) (fun K vs w => ∀ j : Env, unp lv vs (mix (mods c) j ρ) (fun ρ' => W P n c ro (ue c ++ A) ρ' (thenX (fun ρ'' => K (vals ρ'' lv)) Q)) w) w
    let Good : Nat → List Value → World → Prop := fun m vs w => ∃ (σ1 : Sg) (E1 : XE) (ρ1 : Env) (S1 : XS), σ.le σ1 ∧ Rep AT P w0 F σ1 S1 w ∧ EnvR AT σ1 E1 ρ1 ∧ vs = vals ρ1 lv ∧ xIter body lv base m (liveE E1 lv base) S1 = .ok (e, E', S')
    have hl : ∀ vs w, ∃ m, (∃ q, Good q vs w) → Good m vs w ∧ ∀ q, Good q vs w → m ≤ q := by
      intro vs w
      by_cases hx : ∃ q, Good q vs w
      · obtain ⟨q, hq⟩ := hx
        obtain ⟨m, h1, h2⟩ := leastN (P := fun q => Good q vs w) q hq
        exact ⟨m, fun _ => ⟨h1, h2⟩⟩
      · exact ⟨0, fun h' => absurd h' hx⟩
    refine ⟨fun vs w => ∃ m, Good m vs w, fun vs w => Classical.choose (hl vs w), ⟨lf, σ, E, ρ, S, Sg.le.refl σ, r, he, rfl, h⟩, fun vs w hI j => ?_⟩
    obtain ⟨⟨σ1, E1, ρ1, S1, hle, r1, he1, rfl, hx⟩, hmin⟩ := Classical.choose_spec (hl vs w) hI
    generalize hm : Classical.choose (hl (vals ρ1 lv) w) = m at hx hmin ⊢
    cases m with
    | zero => cases hx
    | succ m =>
      obtain ⟨⟨e2, E2, S2⟩, h1, h2⟩ := R.bind_ok (show R.bind (body (liveE E1 lv base) S1) _ = _ from hx)
      refine unp_ok he1 lv _ _ (base_rel (he.mono hle) j) fun ρ2 he2 => ?_
      refine ih (ue c ++ A) _ ρ2 σ1 S1 w e2 E2 S2 he2 r1 h1 _ fun σ' ρ' w' hl' r' he' => ?_
      cases e2 with
      | normal =>
        dsimp only at h2
        rw [liveK_eq] at h2
        have hg : Good m (vals ρ' lv) w' := ⟨σ', E2, ρ', S2, hle.trans hl', r', he', rfl, h2⟩
        refine ⟨⟨m, hg⟩, ?_⟩
        have := (Classical.choose_spec (hl (vals ρ' lv) w') ⟨m, hg⟩).2 m hg
        show Classical.choose (hl (vals ρ' lv) w') < Classical.choose (hl (vals ρ1 lv) w)
        rw [hm]
        omega
      | _ => cases h2; exact k σ' ρ' w' (hle.trans hl') r' he'
  | rangeFunc f ps a b _ _ =>
    intro A E ρ σ S w e E' S' he r h Q k
    unfold xCode at h
    cases inR with
    | true => cases h
    | false =>
      cases ro with
      | some _ => cases hro
      | none =>
        simp only [cond_false] at h
        split at h
        · rename_i kf caps hf
          rw [XS.addK_eq, XS.addK_eq] at h
          obtain ⟨⟨x, S3⟩, h1, h2⟩ := R.bind_ok h
          have df := op_den he (x := f) (by rw [hf]; rfl)
          rw [hf] at df
          obtain ⟨as, us, a1, a2, hv⟩ := den_fn.1 df
          cases as with
          | cons _ _ => cases a1
          | nil =>
            show RF0 P (ev ρ f) (xrd P n ps.toList a b ρ) _ w
            refine ⟨kf, us.toArray, hv, (hH []).enters _ _ _ _ h1, fun r0 q1 q2 q3 q4 => ?_⟩
            have r1 : Rep AT P w0 F (σ.add S.nx ⟨w.heap.size, 0, 0, none⟩) (S.add .df) (w.alloc (.deferred (some []))) := by
              refine r.grow ⟨?_, r.d.2.trans (Kp.alloc _ _)⟩
              rw [hw_alloc]
              obtain ⟨hh1, hh2, s, a, l⟩ := Sat.new (n := w.heap.size) (o := .deferred (some [])) (hw_none w) r.d.1
              exact ⟨hh1, hh2, s, ⟨_, Sg.add_at _ _ _, a⟩, l⟩
            have hs : (w.alloc (.deferred (some []))).heap.size = w.heap.size + 1 := by show (w.heap.push _).size = _; exact Array.size_push _
            have r2 : Rep AT P w0 F ((σ.add S.nx ⟨w.heap.size, 0, 0, none⟩).add (S.nx + 1) ⟨w.heap.size + 1, 0, 0, some r0⟩) ((S.add .df).add (.lp ⟨ps.toList, a, b, E, n⟩ .ready .none)) ((w.alloc (.deferred (some []))).alloc (.loop r0)) := by
              refine r1.grow (g := ⟨w.heap.size + 1, 0, 0, some r0⟩) ⟨?_, r1.d.2.trans (Kp.alloc _ _)⟩
              rw [hw_alloc, hs]
              obtain ⟨hh1, hh2, s, a', l⟩ := Sat.new (n := w.heap.size + 1) (o := .loop r0) (by rw [← hs]; exact hw_none _) r1.d.1
              exact ⟨hh1, hh2, s, ⟨_, r0, r0, ρ, Sg.add_at _ _ _, rfl, a', sameLp.refl r0, q1, q2, he.mono (r.le.trans r1.le), q4⟩, l⟩
            have hle2 : σ.le ((σ.add S.nx ⟨w.heap.size, 0, 0, none⟩).add (S.nx + 1) ⟨w.heap.size + 1, 0, 0, some r0⟩) := r.le.trans (r1.le (g := ⟨w.heap.size + 1, 0, 0, some r0⟩))
            have harr : (#[Value.func (.yield (w.heap.size + 1)) #[] #[]] ++ us.toArray) = (Value.func (.yield (w.heap.size + 1)) #[] #[] :: us).toArray := by simp
            rw [harr]
            refine (hH []).fn _ _ _ _ _ h1 _ _ _ _ (DL.cons (den_yld.2 ⟨_, Sg.add_at _ _ _, rfl⟩) (a2.mono hle2)) r2 fun σ3 v w3 hl3 r3 _ => ?_
            dsimp only at h2
            split at h2
            · rename_i i st p hlp
              replace h2 := need_ok h2
              obtain ⟨hst, h2⟩ := h2
              obtain ⟨g, lp, r0', g1, g2, g3, g4, g5, g6, g7⟩ := r3.endLp hlp
              have hg := hl3 _ _ (Sg.add_at (σ.add S.nx ⟨w.heap.size, 0, 0, none⟩) (S.nx + 1) ⟨w.heap.size + 1, 0, 0, some r0⟩)
              rw [hg] at g1
              cases g1
              cases g2
              have hnx : σ3 S.nx = some ⟨w.heap.size, 0, 0, none⟩ := hl3 _ _ (r1.le _ _ (Sg.add_at σ S.nx _))
              refine ⟨lp, g3, g4, by rw [g5]; exact of_decide_eq_true hst, ?_⟩
              have hE : EnvR AT σ3 ((MK, addMk (getE E MK) (.ptr S.nx 0)) :: E) (ρ.upd MK (dy (addMark (ρ MK).v (.pointer (some ⟨w.heap.size, 0, none⟩))))) :=
                (he.mono (hle2.trans hl3)).cons MK (addMk_rel ((he.mono (hle2.trans hl3)) MK) (den_ptr.2 ⟨_, hnx, rfl⟩))
              cases p with
              | none =>
                dsimp only at h2
                rw [XS.delK_eq, force2_eq] at h2
                cases h2
                rw [show lp.pending = none from g6]
                exact k σ3 _ _ (hle2.trans hl3) (g7 _) hE
              | ret =>
                dsimp only at h2
                rw [XS.delK_eq, force2_eq] at h2
                cases h2
                rw [show lp.pending = some .ret from g6]
                exact k σ3 _ _ (hle2.trans hl3) (g7 _) hE
              | exit i =>
                replace h2 := need_ok h2
                obtain ⟨hi, h2⟩ := h2
                rw [XS.delK_eq, force2_eq] at h2
                cases h2
                rw [show lp.pending = some (.exit i) from g6]
                exact exSel_of (k σ3 _ _ (hle2.trans hl3) (g7 _) hE) _ hi
            · cases h2
        · cases h
  | goto _ => intro A E ρ σ S w e E' S' he r h Q k; cases h
  | refuse _ => intro A E ρ σ S w e E' S' he r h Q k; cases h
end
end Go.Jac
