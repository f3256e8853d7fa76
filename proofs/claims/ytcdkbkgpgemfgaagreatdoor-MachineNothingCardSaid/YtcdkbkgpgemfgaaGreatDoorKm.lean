/- Runs are right. -/
import Derived.Test.YtcdkbkgpgemfgaaGreatDoorKl
set_option maxRecDepth 100000
namespace Go.Jac
open Go

/-- Functions that are told, not run. -/
def IOk (AT : Nat → Nat → Value) (P : Program) (w0 : World) (F : List HP) (intr : Nat → List X → Option (XS → R (X × XS))) : Prop :=
  ∀ k args f, intr k args = some f → (∀ a w, (callFunc k a).run P w = .ok (.enter k a) w) ∧ ∀ S x S', f S = .ok (x, S') → ∀ (σ : Sg) vs w (K : Value → WP), DL AT σ args vs → Rep AT P w0 F σ S w → (∀ σ' v w', σ.le σ' → Rep AT P w0 F σ' S' w' → den AT σ' x = some v → K v w') → Cl P k vs.toArray K w
section
variable {AT : Nat → Nat → Value} {P : Program} {GL : Gv} {w0 : World} {F : List HP}
theorem arg_rel {σ : Sg} : ∀ (args : List X) (vs : List Value) (j : Nat), DL AT σ args vs → j + args.length ≤ MK → ∀ i, RelX AT σ (getE (argE args j) i) (if i = MK then dy (.tuple #[]) else if i < j then su else match vs[i - j]? with | some v => dy v | none => su)
  | [], vs, j, hd, hj, i => by
    cases vs with
    | cons _ _ => cases hd
    | nil =>
      show RelX AT σ (getE [(MK, .tup [])] i) _
      rw [getE_cons]
      by_cases e : i = MK
      · rw [if_pos e, if_pos e]; exact .dy (den_tup.2 ⟨[], DL.nil, rfl⟩)
      · rw [if_neg e]; exact trivial
  | x :: r, [], j, hd, hj, i => by cases hd
  | x :: r, v :: vs, j, hd, hj, i => by
    simp only [List.length_cons] at hj
    have hx : den AT σ x = some v := (List.cons.inj hd).1
    show RelX AT σ (getE ((j, x) :: argE r (j + 1)) i) _
    rw [getE_cons]
    by_cases e : i = j
    · subst e
      rw [if_pos rfl, if_neg (by omega), if_neg (by omega)]
      simp only [Nat.sub_self, List.getElem?_cons_zero]
      exact .dy hx
    · rw [if_neg e]
      have ih := arg_rel r vs (j + 1) (List.cons.inj hd).2 (by omega) i
      by_cases e1 : i = MK
      · rw [if_pos e1] at ih ⊢; exact ih
      · rw [if_neg e1] at ih ⊢
        by_cases e2 : i < j
        · rw [if_pos (by omega)] at ih; rw [if_pos e2]; exact ih
        · rw [if_neg (by omega)] at ih; rw [if_neg e2]
          rw [show i - j = (i - (j + 1)) + 1 from by omega, List.getElem?_cons_succ]
          exact ih
theorem env0_rel {σ : Sg} {args : List X} {vs : List Value} (hd : DL AT σ args vs) (hl : args.length ≤ MK) : EnvR AT σ (argE args 0) (env0 vs) := fun i => by
  have h := arg_rel args vs 0 hd (by omega) i
  unfold env0
  by_cases e : i = MK
  · subst e
    rw [if_pos rfl] at h
    simpa using h
  · have hb : Nat.beq i MK = false := by rw [← Bool.not_eq_true]; simpa using e
    rw [if_neg e, if_neg (by omega), Nat.sub_zero] at h
    rw [hb]
    exact h
theorem pop_ok {σ : Sg} {S1 : XS} {N : WP} (hN : ∀ w', Rep AT P w0 F σ S1 w' → N w') : ∀ (ms : List X) (vs : List Value) (S : XS) (w : World), DL AT σ ms vs → Rep AT P w0 F σ S w → popM ms S = .ok S1 → LvL vs N w
  | [], vs, S, w, hd, r, h => by
    cases vs with
    | cons _ _ => cases hd
    | nil => cases h; exact hN w r
  | m :: ms, [], S, w, hd, r, h => by cases hd
  | m :: ms, v :: vs, S, w, hd, r, h => by
    have hm : den AT σ m = some v := (List.cons.inj hd).1
    cases m with
    | ptr b o =>
      cases o with
      | succ _ => cases h
      | zero =>
        replace h : (match findB S.bs b with | some .df => S.delK b fun S => popM ms S | _ => .no 180) = R.ok S1 := h
        split at h
        · rename_i hf
          rw [XS.delK_eq] at h
          obtain ⟨g, hg, rfl⟩ := den_ptr.1 hm
          obtain ⟨L, d, _, h2⟩ := r.d.takeB hf
          obtain ⟨⟨hh1, hh2, s, ⟨g', e1, e2⟩, l'⟩, kp⟩ := d
          rw [hg] at e1; cases e1
          have d : D w0 (pts g.ad (.deferred (some [])) :: L) w := ⟨⟨hh1, hh2, s, e2, l'⟩, kp⟩
          refine ⟨d.at_, pop_ok hN _ vs (S.del b) _ (List.cons.inj hd).2 ⟨?_, r.fresh⟩ h⟩
          have := (d.put (o' := .deferred none)).tail
          rw [h2] at this
          exact this
        · cases h
    | _ => cases h
theorem lvW_of {vs : List Value} {N : WP} {w : World} (h : LvL vs N w) : LvW (.tuple vs.toArray) N w := by
  cases vs with
  | nil => exact h
  | cons v r => exact h
theorem res_ok (hG : GLok AT GL w0 F) {σ : Sg} {S : XS} {w : World} {E : XE} {ρ : Env} (he : EnvR AT σ E ρ) (r : Rep AT P w0 F σ S w) : ∀ (l : List ResultVar) (xs : List X), xRes P GL S l E = .ok xs → ∃ vs, DL AT σ xs vs ∧ ∀ (acc : List Value) (K : List Value → WP), K (acc ++ vs) w → ResL P l ρ acc K w
  | [], xs, h => by cases h; exact ⟨[], DL.nil, fun acc K k => by rw [List.append_nil] at k; exact k⟩
  | .tmp t :: l, xs, h => by
    obtain ⟨h1, h2⟩ := need_ok (show need (isX (getE E t)) 182 _ = _ from h)
    obtain ⟨ys, h3, h4⟩ := R.bind_ok h2
    cases h4
    obtain ⟨v, v1, v2, _⟩ := (he t).out h1
    obtain ⟨vs, u1, u2⟩ := res_ok hG he r l ys h3
    refine ⟨v :: vs, DL.cons v1 u1, fun acc K k => ?_⟩
    show ResL P l ρ (acc ++ [(ρ t).v]) K w
    rw [v2]
    exact u2 _ K (by rw [List.append_assoc]; exact k)
  | .cell t ty :: l, xs, h => by
    obtain ⟨x, h1, h2⟩ := R.bind_ok (show R.bind (xLoad P GL S ty (getE E t)) _ = _ from h)
    obtain ⟨ys, h3, h4⟩ := R.bind_ok h2
    cases h4
    obtain ⟨va, v, v1, v2, v3⟩ := load_x hG r.d h1
    obtain ⟨u, u0, u01, _⟩ := (he t).out (isX_of v1)
    rw [v1] at u0; cases u0
    obtain ⟨vs, u1, u2⟩ := res_ok hG he r l ys h3
    refine ⟨v :: vs, DL.cons v2 u1, fun acc K k => ?_⟩
    have := v3 (fun v => ResL P l ρ (acc ++ [v]) K) (u2 _ K (by rw [List.append_assoc]; exact k))
    unfold loadV at this
    unfold ResL
    rw [u01]
    exact this
theorem tupl_x {σ : Sg} {xs : List X} {vs : List Value} (h : DL AT σ xs vs) : den AT σ (tuplX xs) = some (tupl vs) := by
  match xs, vs, h with
  | [], [], _ => exact den_tup.2 ⟨[], DL.nil, rfl⟩
  | [], _ :: _, h => cases h
  | _ :: _, [], h => cases h
  | [x], [v], h => exact (List.cons.inj h).1
  | [x], _ :: _ :: _, h => exact absurd (congrArg List.length h) (by simp)
  | _ :: _ :: _, [_], h => exact absurd (congrArg List.length h) (by simp)
  | x :: y :: r, v :: u :: us, h => exact den_tup.2 ⟨_, h, rfl⟩
theorem unpX_ok {σ : Sg} {w : World} {Body : Env → WP} : ∀ (ps : List Nat) (args : List X) (vs : List Value) (E E0 : XE) (ρ : Env), parE ps args E = some E0 → DL AT σ args vs → EnvR AT σ E ρ → (∀ ρ0, EnvR AT σ E0 ρ0 → Body ρ0 w) → unpX ps vs ρ Body w
  | [], [], vs, E, E0, ρ, h, hd, he, k => by
    cases vs with
    | cons _ _ => cases hd
    | nil => cases h; exact k ρ he
  | [], _ :: _, vs, E, E0, ρ, h, hd, he, k => by cases h
  | _ :: _, [], vs, E, E0, ρ, h, hd, he, k => by cases h
  | i :: ps, x :: args, [], E, E0, ρ, h, hd, he, k => by cases hd
  | i :: ps, x :: args, v :: vs, E, E0, ρ, h, hd, he, k => unpX_ok ps args vs _ E0 _ h (List.cons.inj hd).2 (he.cons i (.dy (List.cons.inj hd).1)) k
/-- A loop's record, written anew. -/
theorem Rep.setLp {σ0 σ : Sg} {S : XS} {w : World} {l : Nat} {g : Gh} {r0 : Loop} {ρ : Env} {i i' : LpI} {st' : LoopState} {p' : PX} (r : Rep AT P w0 F σ S w) (hf : findB S.bs l = some (.lp i' st' p')) (hg : σ l = some g) (hlp : g.lp = some r0) (he : EnvR AT σ i.E ρ) (hr : RoundOf P r0 (xrd P i.n i.ps i.a i.b ρ)) :
    ∃ q, isLp w g.ad q ∧ q.state = st' ∧ pendOk p' q.pending ∧ ∀ st p pend, pendOk p pend → Rep AT P w0 F σ (S.upd l (.lp i st p)) (World.put' w g.ad (.loop { q with state := st, pending := pend })) := by
  obtain ⟨L, d, h1, _⟩ := r.d.takeB hf
  obtain ⟨⟨hh1, hh2, s, ⟨g', q, r0', ρ', e1, e2, e3, e4, e5, e6, e7, e8⟩, l'⟩, kp⟩ := d
  rw [hg] at e1; cases e1
  rw [hlp] at e2; cases e2
  have d : D w0 (pts g.ad (.loop q) :: L) w := ⟨⟨hh1, hh2, s, e3, l'⟩, kp⟩
  refine ⟨q, d.at_, e5, e6, fun st p pend hp => ⟨h1 _ _ ?_, r.fresh⟩⟩
  obtain ⟨⟨k1, k2, s', a, l''⟩, kp'⟩ := d.put (o' := .loop { q with state := st, pending := pend })
  exact ⟨⟨k1, k2, s', ⟨g, _, r0, ρ, hg, hlp, a, e4, rfl, hp, he, hr⟩, l''⟩, kp'⟩
theorem run_ok (hm : P.follows .mixedOrders = true) (hAT : ∀ i c, (AT i c).oneCell' = true) (hG0 : GLok AT GL w0 F) {intr : Nat → List X → Option (XS → R (X × XS))} (hI : ∀ Ls, IOk AT P w0 (Ls ++ F) intr) {lf : Nat} : ∀ d Ls, HOk AT P w0 (Ls ++ F) (xRun P GL intr lf d)
  | 0, _ => ⟨(fun _ _ _ _ h => by cases h), (fun _ _ _ _ _ h => by cases h), (fun _ _ _ _ _ h => by cases h)⟩
  | d + 1, Ls => by
    have hG := hG0.app Ls
    have ih : ∀ Ls', HOk AT P w0 (Ls' ++ (Ls ++ F)) (xRun P GL intr lf d) := fun Ls' => by
      rw [← List.append_assoc]; exact run_ok hm hAT hG0 hI d (Ls' ++ Ls)
    refine ⟨fun k args S p h a w => ?_, fun k args S x S' h σ vs w K hd r kk => ?_, fun l args S x S' h σ g vs w K hg hd r kk => ?_⟩
    · unfold xRun at h
      split at h
      · rename_i f hf
        exact (hI Ls k args f hf).1 a w
      · split at h
        · cases h
        · rename_i fn hfn
          split at h
          · cases h
          · rename_i c hc
            obtain ⟨_, h⟩ := need_ok h
            obtain ⟨hn, _⟩ := need_ok h
            unfold callFunc
            have hn' : (fn.name == "runtime.NumGoroutine") = false := by
              cases hb : fn.name == "runtime.NumGoroutine" with
              | false => rfl
              | true => simp [bne, hb] at hn
            have hp : (program : Sem Program).run P w = .ok P w := rfl
            simp only [Sem.run_bind, hp, Result.andThen_ok, hfn, hn', hc, Option.isNone_some, Bool.false_eq_true, if_false, Sem.run_pure]
    · unfold xRun at h
      split at h
      · rename_i f hf
        exact (hI Ls k args f hf).2 S x S' h σ vs w K hd r kk
      · split at h
        · cases h
        · rename_i fn hfn
          split at h
          · cases h
          · rename_i c hc
            replace h := need_ok h
            obtain ⟨hok, h⟩ := h
            replace h := need_ok h
            obtain ⟨_, h⟩ := h
            replace h := need_ok h
            obtain ⟨hlen, h⟩ := h
            rw [argK_eq] at h
            obtain ⟨⟨e, E1, S1⟩, h1, h⟩ := R.bind_ok h
            dsimp only at h
            have hal := hd.len
            have hok' : fnOk fn vs.length = true := by
              unfold fnOk at hok ⊢
              rw [hc] at hok ⊢
              dsimp only at hok ⊢
              cases a1 : Nat.ble fn.ntmps MK <;> rw [a1] at hok <;> (try cases hok)
              cases a2 : codeOk fn.ntmps c <;> rw [a2] at hok <;> (try cases hok)
              cases a3 : tmpsOk fn.ntmps (resTmps fn.results.toList) <;> rw [a3] at hok <;> (try cases hok)
              simp only [cond_true]
              rw [← hal]; exact hlen
            have hMK : fn.ntmps ≤ MK := by
              unfold fnOk at hok
              rw [hc] at hok
              dsimp only at hok
              cases a1 : Nat.ble fn.ntmps MK with
              | false => rw [a1] at hok; cases hok
              | true => exact ble_le a1
            refine cl_of hm hfn hok' ?_
            unfold WF
            rw [hc]
            dsimp only
            have hlen := ble_le hlen
            refine code_ok hAT hG ih (ro := none) rfl c _ _ _ σ S w e E1 S1 (env0_rel hd (by omega)) r h1 _ fun σ' ρ' w' hl r' he' => ?_
            replace h := need_ok h
            obtain ⟨hex, h⟩ := h
            split at h
            · rename_i ms hmk
              obtain ⟨S2, h2, h⟩ := R.bind_ok h
              obtain ⟨xs, h3, h⟩ := R.bind_ok h
              cases h
              have hmkr := he' MK
              rw [hmk] at hmkr
              obtain ⟨v, v1, v2, _⟩ := hmkr
              obtain ⟨ws, w1, rfl⟩ := den_tup.1 v1
              have fin : LvW (ρ' MK).v (ResL P fn.results.toList ρ' [] fun vs => K (tupl vs)) w' := by
                rw [v2]
                refine lvW_of (pop_ok (fun w2 r2 => ?_) ms ws S1 w' w1 r' h2)
                obtain ⟨us, u1, u2⟩ := res_ok hG he' r2 fn.results.toList xs h3
                refine u2 [] _ ?_
                exact kk σ' _ w2 hl r2 (tupl_x u1)
              cases e with
              | normal => exact fin
              | ret => exact fin
              | _ => cases hex
            · cases h
    · unfold xRun at h
      rw [force2s_eq] at h
      split at h
      · rename_i i p hf
        obtain ⟨g', q, r0, ρ, e1, e2, e3, e4, e5, e6, e7, e8⟩ := r.d.atB hf
        rw [hg] at e1; cases e1
        split at h
        · cases h
        · rename_i E0 hE0
          obtain ⟨⟨x1, E1, S1⟩, h1, h⟩ := R.bind_ok h
          dsimp only at h
          have f1 := e4
          refine e8 g.ad q vs K w e3 e4.1 e4.2.1 e4.2.2.1 e4.2.2.2.1 e4.2.2.2.2.1 ?_ _ rfl
          unfold xrd
          refine unpX_ok i.ps args vs _ E0 _ hE0 hd ((e7.cons MK (.dy (den_tup.2 ⟨[], DL.nil, rfl⟩)))) fun ρ0 he0 => ?_
          refine code_ok hAT hG ih (ro := some g.ad) rfl i.a _ _ _ σ S w x1 E1 S1 he0 r h1 _ fun σ1 ρ1 w1 hl1 r1 he1 => ?_
          cases x1 with
          | normal =>
            dsimp only at h
            split at h
            · rename_i i1 hf1
              rw [XS.updK_eq] at h
              obtain ⟨⟨x2, E2, S2⟩, h2, h⟩ := R.bind_ok h
              dsimp only at h
              have hg1 : σ1 l = some g := hl1 _ _ hg
              obtain ⟨q1, b1, b2, b3, b4⟩ := r1.setLp (σ0 := σ) (i := i) hf1 hg1 e2 (e7.mono hl1) e8
              refine ⟨q1, b1, b2, ?_⟩
              have r1' := b4 .busy .none q1.pending b3
              refine code_ok hAT hG ih (ro := some g.ad) rfl i.b _ _ _ σ1 _ _ x2 E2 S2 he1 r1' h2 _ fun σ2 ρ2 w2 hl2 r2 he2 => ?_
              split at h
              · rename_i i2 st2 p2 hf2
                have hg2 : σ2 l = some g := hl2 _ _ hg1
                obtain ⟨q2, c1, c2, c3, c4⟩ := r2.setLp (σ0 := σ) (i := i) hf2 hg2 e2 (e7.mono (hl1.trans hl2)) e8
                split at h
                · rw [XS.updK_eq] at h
                  cases h
                  exact ⟨q2, c1, kk σ2 _ _ (hl1.trans hl2) (c4 .ready .none none rfl) (den_bool.2 rfl)⟩
                · rw [XS.updK_eq] at h
                  cases h
                  exact ⟨q2, c1, kk σ2 _ _ (hl1.trans hl2) (c4 .done .ret (some .ret) rfl) (den_bool.2 rfl)⟩
                · rename_i j
                  rw [XS.updK_eq] at h
                  cases h
                  exact ⟨q2, c1, kk σ2 _ _ (hl1.trans hl2) (c4 .done (.exit j) (some (.exit j)) rfl) (den_bool.2 rfl)⟩
                · cases h
              · cases h
            · cases h
          | _ => cases h
      · cases h
end
end Go.Jac
