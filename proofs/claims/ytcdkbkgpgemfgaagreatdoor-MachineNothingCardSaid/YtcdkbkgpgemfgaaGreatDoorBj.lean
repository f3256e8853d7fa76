/- A function's contract, out of what its code asks. -/
import Derived.Test.YtcdkbkgpgemfgaaGreatDoorBi
namespace Go.Jac
open Go

section
variable {P : Program} {n : Nat}

theorem run_getLoop' {w : World} {l : Nat} {r : Loop} (h : isLp w l r) : (Instr.getLoop l).run P w = .ok r w := by
  unfold Instr.getLoop
  have : w.heap[l]? = some (.loop r) := h
  simp [getObj, Sem.run, this]
theorem run_setLoop' {w : World} {l : Nat} {r : Loop} {o : Obj} (h : isLp w l r) : (setObj l o).run P w = .ok () (World.put' w l o) := by
  have : w.heap[l]? = some (.loop r) := h
  simp [setObj, Sem.run, this, World.put']
theorem run_endLoop' {w : World} {l : Nat} {r : Loop} (h : isLp w l r) (hs : r.state ≠ .busy) : (Instr.endLoop l).run P w = .ok r.pending (World.put' w l (.loop { r with state := .exhausted })) := by
  unfold Instr.endLoop
  have : (r.state == LoopState.busy) = false := by cases hst : r.state <;> first | rfl | exact absurd hst hs
  simp only [Sem.run_bind, run_getLoop' h, Result.andThen_ok, this, Bool.false_eq_true, if_false, run_setLoop' h, Sem.run_pure]

theorem W_sound (hn : n ≤ MK) (hm : P.follows .mixedOrders = true) : ∀ (c : Code), codeOk n c = true → ∀ (ro : Option Nat) (A : List Nat) (ρ : Env) (Q : Exit → Env → WP) (a : Act) (w : World),
    Agree n a ρ.val → Gd ρ → (∃ vs, (ρ MK).v = .tuple vs) → W P n c ro A ρ Q w → c.wpIn (FR ro) 0 P (fun e a' w' => Post n ρ (mods c) (fun e ρ' w' => (∃ vs, (ρ' MK).v = .tuple vs) ∧ Q e ρ' w') e a' w') a w := by
  intro c
  induction c with
  | skip => exact fun _ ro A ρ Q a w hA hG hM h => wpIn_skip ⟨trivial, ρ, hA, hG, fun _ _ => rfl, hM, h⟩
  | label l => exact fun _ ro A ρ Q a w hA hG hM h => wpIn_label ⟨trivial, ρ, hA, hG, fun _ _ => rfl, hM, h⟩
  | ret => exact fun _ ro A ρ Q a w hA hG hM h => wpIn_ret ⟨trivial, ρ, hA, hG, fun _ _ => rfl, hM, h⟩
  | exit i => exact fun _ ro A ρ Q a w hA hG hM h => wpIn_exit ⟨trivial, ρ, hA, hG, fun _ _ => rfl, hM, h⟩
  | goto l => exact fun _ ro A ρ Q a w hA hG hM h => h.elim
  | refuse s => exact fun _ ro A ρ Q a w hA hG hM h => h.elim
  | scope c ih =>
    intro hok ro A ρ Q a w hA hG hM h
    refine wpIn_scope (wpIn_mono (ih hok ro A ρ _ a w hA hG hM h) ?_)
    rintro e a' w' ⟨ho, h'⟩
    cases e with
    | goto l => exact ho.elim
    | _ => exact ⟨ho, h'⟩
  | region id ops draw =>
    intro hok ro A ρ Q a w hA hG hM h
    have hall : allB (opOk n) ops.toList = true := hok
    have hMk : ∀ ρ' : Env, (∀ i, i ∉ dsts ops.toList → ρ'.val i = ρ.val i) → ∃ vs, (ρ' MK).v = .tuple vs := fun ρ' hk => by
      refine ⟨_, (hk MK fun hmem => ?_).trans hM.choose_spec⟩
      obtain ⟨o, ho, hd⟩ := List.mem_flatMap.1 hmem
      have hd' : o.dst = some MK := by simpa using hd
      have := opOk_dst (allB_iff.1 hall o ho)
      rw [hd'] at this
      have : MK + 1 ≤ n := by simpa [Nat.blt] using this
      omega
    cases draw with
    | false =>
      refine wpIn_region ?_
      have := wops_sound (ro := ro) (Q := Post n ρ (mods (.region id ops false)) (fun e ρ' w' => (∃ vs, (ρ' MK).v = .tuple vs) ∧ Q e ρ' w')) hn hall (List.range ops.size) ops.toList (fun _ h => h) (by
        refine List.ext_getElem? fun i => ?_
        simp only [List.getElem?_map]
        by_cases hi : i < ops.size
        · rw [List.getElem?_range hi]; simp [hi]
        · rw [List.getElem?_eq_none (by simp; omega), List.getElem?_eq_none (by simp; omega)]; rfl) a ρ w (Q .normal) hA hG h []
        (fun a' ρ' w' hA' hG' hk hq => ⟨trivial, ρ', hA', hG', hk, hMk ρ' hk, hq⟩)
      simpa using this
    | true =>
      unfold W at h
      cases hd : drawOk ops.toList with
      | false => rw [hd] at h; exact h.elim
      | true =>
        rw [hd] at h
        exact draw_sound hn hm hall hd hA hG (fun a' ρ' w' hA' hG' hk hq => ⟨trivial, ρ', hA', hG', hk, hMk ρ' hk, hq⟩) h
  | cond c x y ihx ihy =>
    intro hok ro A ρ Q a w hA hG hM h
    have h0 : tmpsOk n (rdOf c) = true := by unfold codeOk at hok; cases hh : tmpsOk n (rdOf c) <;> simp [hh] at hok ⊢
    have h1 : codeOk n x = true := by unfold codeOk at hok; rw [h0] at hok; cases hh : codeOk n x <;> simp [hh] at hok ⊢
    have h2 : codeOk n y = true := by unfold codeOk at hok; rw [h0, h1] at hok; exact hok
    obtain ⟨b, hb, hw⟩ := CndW_cases (good_evS hG c) h
    have hc : a.eval c = .bool b := by rw [hA.ev_eq h0, ← ev_val]; exact hb
    refine wpIn_cond hc ?_
    cases b with
    | true => exact wpIn_mono (ihx h1 ro A ρ Q a w hA hG hM hw) fun e a' w' ⟨ho, ρ', hA', hG', hk, hq⟩ => ⟨ho, ρ', hA', hG', fun i hi => hk i fun hm' => hi (List.mem_append_left _ hm'), hq⟩
    | false => exact wpIn_mono (ihy h2 ro A ρ Q a w hA hG hM hw) fun e a' w' ⟨ho, ρ', hA', hG', hk, hq⟩ => ⟨ho, ρ', hA', hG', fun i hi => hk i fun hm' => hi (List.mem_append_right _ hm'), hq⟩
  | block id c ih =>
    intro hok ro A ρ Q a w hA hG hM h
    refine wpIn_block (wpIn_mono (ih hok ro A ρ _ a w hA hG hM h) ?_)
    rintro e a' w' ⟨ho, ρ', hA', hG', hk, hM', hq⟩
    cases e with
    | exit i =>
      simp only [blockX] at hq
      simp only [Exit.inBlock]
      cases hb : Nat.beq i id with
      | true => rw [hb] at hq; rw [if_pos (Nat.eq_of_beq_eq_true hb)]; exact ⟨trivial, ρ', hA', hG', hk, hM', hq⟩
      | false => rw [hb] at hq; rw [if_neg (Nat.ne_of_beq_eq_false hb)]; exact ⟨trivial, ρ', hA', hG', hk, hM', hq⟩
    | _ => first | exact ho.elim | exact ⟨trivial, ρ', hA', hG', hk, hM', hq⟩
  | seq x y ihx ihy =>
    intro hok ro A ρ Q a w hA hG hM h
    have h1 : codeOk n x = true := by unfold codeOk at hok; cases hh : codeOk n x <;> simp [hh] at hok ⊢
    have h2 : codeOk n y = true := by unfold codeOk at hok; rw [h1] at hok; exact hok
    have key : ∀ N : Env → WP, W P n x ro (ue y ++ A) ρ (thenX N Q) w → (∀ ρ1 w1, Gd ρ1 → (∀ i, i ∉ mods x → ρ1.val i = ρ.val i) → N ρ1 w1 → ∃ ρ2 : Env, ρ2.val = ρ1.val ∧ Gd ρ2 ∧ W P n y ro A ρ2 Q w1) →
        (Code.seq x y).wpIn (FR ro) 0 P (fun e a' w' => Post n ρ (mods (.seq x y)) (fun e ρ' w' => (∃ vs, (ρ' MK).v = .tuple vs) ∧ Q e ρ' w') e a' w') a w := by
      intro N hw hN
      refine wpIn_seq (wpIn_mono (ihx h1 ro _ ρ _ a w hA hG hM hw) ?_)
      rintro e a1 w1 ⟨ho, ρ1, hA1, hG1, hk1, hM1, hq⟩
      cases e with
      | normal =>
        obtain ⟨ρ3, hv3, hG3, hw3⟩ := hN ρ1 w1 hG1 hk1 hq
        refine wpIn_mono (ihy h2 ro A ρ3 Q a1 w1 (by rw [hv3]; exact hA1) hG3 (by obtain ⟨vs, hvs⟩ := hM1; exact ⟨vs, (congrFun hv3 MK).trans hvs⟩) hw3) ?_
        rintro e2 a2 w2 ⟨ho2, ρ2, hA2, hG2, hk2, hq2⟩
        rw [hv3] at hk2
        exact ⟨ho2, ρ2, hA2, hG2, fun i hi => (hk2 i fun hm' => hi (List.mem_append_right _ hm')).trans (hk1 i fun hm' => hi (List.mem_append_left _ hm')), hq2⟩
      | _ => first | exact ho.elim | exact ⟨trivial, ρ1, hA1, hG1, fun i hi => hk1 i fun hm' => hi (List.mem_append_left _ hm'), hM1, hq⟩
    unfold W at h
    cases hj : joinN x y with
    | false => rw [hj] at h; exact key _ h fun ρ1 w1 hG1 _ h => ⟨ρ1, rfl, hG1, h⟩
    | true =>
      rw [hj] at h
      exact key _ (h _ fun vs w' hv => hv) fun ρ1 w1 hG1 hk1 hv => unp_use (B := fun ρ' => W P n y ro A ρ' Q) hG1 hG hk1 hv
  | loop c ih =>
    intro hok ro A ρ Q a w hA hG hM h
    obtain ⟨I, μ, h0, hr⟩ := h
    refine wpIn_loop_ghost (G := Env) (fun g a w => Agree n a g.val ∧ Gd g ∧ (∃ vs, (g MK).v = .tuple vs) ∧ (∀ i, i ∉ mods c → g.val i = ρ.val i) ∧ I (vals g (liveL (mods c) (ue c ++ A))) w) (fun g w => μ (vals g (liveL (mods c) (ue c ++ A))) w) ρ ⟨hA, hG, hM, fun _ _ => rfl, h0⟩ ?_
    rintro g a1 w1 ⟨hA1, hG1, hM1, hk1, hI⟩
    obtain ⟨g', hv', hG', hb⟩ := unp_use (B := fun ρ' => W P n c ro (ue c ++ A) ρ' _) hG1 hG hk1 (hr _ w1 hI)
    refine wpIn_mono (ih hok ro _ g' _ a1 w1 (by rw [hv']; exact hA1) hG' (by obtain ⟨vs, hvs⟩ := hM1; exact ⟨vs, (congrFun hv' MK).trans hvs⟩) hb) ?_
    rintro e a2 w2 ⟨ho, ρ2, hA2, hG2, hk2, hM2, hq⟩
    rw [hv'] at hk2
    cases e with
    | normal => exact ⟨ρ2, ⟨hA2, hG2, hM2, fun i hi => (hk2 i hi).trans (hk1 i hi), hq.1⟩, hq.2⟩
    | _ => first | exact ho.elim | exact ⟨trivial, ρ2, hA2, hG2, fun i hi => (hk2 i hi).trans (hk1 i hi), hM2, hq⟩
  | rangeFunc f ps x y ihx ihy =>
    intro hok ro A ρ Q a w hA hG hM h
    have h0 : tmpsOk n (rdOf f) = true := by unfold codeOk at hok; cases hh : tmpsOk n (rdOf f) <;> simp [hh] at hok ⊢
    have h0' : tmpsOk n ps.toList = true := by unfold codeOk at hok; rw [h0] at hok; cases hh : tmpsOk n ps.toList <;> simp [hh] at hok ⊢
    have h1 : codeOk n x = true := by unfold codeOk at hok; rw [h0, h0'] at hok; cases hh : codeOk n x <;> simp [hh] at hok ⊢
    have h2 : codeOk n y = true := by unfold codeOk at hok; rw [h0, h0', h1] at hok; exact hok
    have hf : a.eval f = ev ρ f := by rw [hA.ev_eq h0, ev_val]
    have rd := fun (r0 : Loop) g1 g2 g3 g4 => round_of (P := P) (x := x) (y := y) (ps := ps) hn hA hG h0' (fun ro A ρ Q a w => ihx h1 ro A ρ Q a w) (fun ro A ρ Q a w => ihy h2 ro A ρ Q a w) r0 g1 g2 g3 g4
    have hres : ∀ (k : FuncId) (caps : Array Value) (l : Nat) (w1 : World), ev ρ f = .func (.func k) #[] caps → (resolve a.eval (rangeCall f l) 0).run P w1 = .ok { target := .fn (.func k) caps, args := #[.func (.yield l) #[] #[]] } w1 := by
      intro k caps l w1 hk
      have h2 : a.eval (.const (.func (.yield l) #[] #[])) = .func (.yield l) #[] #[] := rfl
      simp [resolve, hf, hk, Deferred.ofValue, h2]
    cases ro with
    | none =>
      obtain ⟨k, caps, hk, he, hc⟩ := h
      refine wpIn_rangeFunc fun fn _ => ?_
      let r0 : Loop := { state := .ready, pending := none, fn := fn, tmps := a.tmps, params := ps, assign := x, body := y, defers := w.heap.size }
      have hcl := hc r0 rfl rfl rfl (rd r0 rfl rfl rfl rfl)
      refine ⟨w.heap.size + 1, [{ target := .collected w.heap.size, args := #[] }], { w with heap := (w.heap.push (.deferred (some []))).push (.loop r0) }, _, _, k, _, _, ?_, hres k caps _ _ hk, fun f' _ => FR_fn none f', ?_, FR_depth none 0, callsIn_of (Calls.mono hcl ?_)⟩
      · simp only [FR_round, Instr.enterLoop, Sem.run_bind, run_newObj, Result.andThen_ok, Sem.run_pure, Array.size_push]
        rfl
      · simp only [invoke, he]
      · rintro e w3 ⟨v, rfl, r, hl, hs, hst, hj⟩
        refine ⟨r.pending, _, run_endLoop' hl hst, ?_⟩
        have hA' : Agree n { a with defers := { target := .collected w.heap.size, args := #[] } :: a.defers } (ρ.upd MK (dy (addMark (ρ MK).v (.pointer (some ⟨w.heap.size, 0, none⟩))))).val := by
          rw [Env.val_upd]
          refine ⟨hA.size, fun i hi => ?_, ?_⟩
          · rw [VEnv.upd_ne _ _ (by omega)]; exact hA.tmp i hi
          · rw [VEnv.upd_same]
            simp only [dy]
            rw [marks_add _ _ hM]
            have := hA.defers
            simp only [this]
            rfl
        have hG' : Gd (ρ.upd MK (dy (addMark (ρ MK).v (.pointer (some ⟨w.heap.size, 0, none⟩))))) := hG.upd MK (good_dy _)
        have hM' : ∃ vs, ((ρ.upd MK (dy (addMark (ρ MK).v (.pointer (some ⟨w.heap.size, 0, none⟩))))) MK).v = .tuple vs := by
          rw [Env.upd_same]
          obtain ⟨vs, hvs⟩ := hM
          rw [hvs]; exact ⟨_, rfl⟩
        have hk' : ∀ i, i ∉ mods (.rangeFunc f ps x y) → (ρ.upd MK (dy (addMark (ρ MK).v (.pointer (some ⟨w.heap.size, 0, none⟩))))).val i = ρ.val i := fun i hi => by
          rw [Env.val_upd]; exact VEnv.upd_ne _ _ fun e => hi (by simp [mods, e])
        have hjj := jump_out (P := P) (F := FR none) (k := 0) (a := { a with defers := { target := .collected w.heap.size, args := #[] } :: a.defers }) (Q := fun e a' w' => Post n ρ (mods (.rangeFunc f ps x y)) (fun e ρ' w' => (∃ vs, (ρ' MK).v = .tuple vs) ∧ Q e ρ' w') e a' w') hj (fun hq => ⟨trivial, _, hA', hG', hk', hM', hq⟩) (fun hq => ⟨trivial, _, hA', hG', hk', hM', hq⟩) (fun i hq => ⟨trivial, _, hA', hG', hk', hM', exSel_out (Q := fun i => Q (.exit i) _) _ hq⟩)
        cases hp : r.pending with
        | none => rw [hp] at hjj; exact hjj.1 rfl
        | some c => rw [hp] at hjj; exact hjj.2 c rfl
    | some l0 =>
      obtain ⟨k, caps, rr, hk, he, hl0, hc⟩ := h
      refine wpIn_rangeFunc fun fn _ => ?_
      let r0 : Loop := { state := .ready, pending := none, fn := fn, tmps := a.tmps, params := ps, assign := x, body := y, defers := rr.defers }
      have hcl := hc r0 rfl rfl rfl (rd r0 rfl rfl rfl rfl)
      refine ⟨w.heap.size, [], { w with heap := w.heap.push (.loop r0) }, _, _, k, _, _, ?_, hres k caps _ _ hk, fun f' _ => FR_fn _ f', ?_, FR_depth _ 0, callsIn_of (Calls.mono hcl ?_)⟩
      · simp only [FR_round, Instr.enterLoop, Sem.run_bind, run_getLoop' hl0, run_newObj, Result.andThen_ok, Sem.run_pure]
        rfl
      · simp only [invoke, he]
      · rintro e w3 ⟨v, rfl, r, hl, hs, hst, hj⟩
        refine ⟨r.pending, _, run_endLoop' hl hst, ?_⟩
        have hjj := jump_out (P := P) (F := FR (some l0)) (k := 0) (a := a) (Q := fun e a' w' => Post n ρ (mods (.rangeFunc f ps x y)) (fun e ρ' w' => (∃ vs, (ρ' MK).v = .tuple vs) ∧ Q e ρ' w') e a' w') hj (fun hq => ⟨trivial, ρ, hA, hG, fun _ _ => rfl, hM, hq⟩) (fun hq => ⟨trivial, ρ, hA, hG, fun _ _ => rfl, hM, hq⟩) (fun i hq => ⟨trivial, ρ, hA, hG, fun _ _ => rfl, hM, exSel_out (Q := fun i => Q (.exit i) _) _ hq⟩)
        cases hp : r.pending with
        | none => rw [hp] at hjj; exact hjj.1 rfl
        | some c => rw [hp] at hjj; exact hjj.2 c rfl

/-! ### Functions -/
/-- The marks of the loops over functions are taken up. -/
def LvL : List Value → WP → WP
  | [], K => K
  | .pointer (some a) :: r, K => fun w => w.heap[a.block]? = some (.deferred (some [])) ∧ LvL r K (World.put' w a.block (.deferred none))
  | _ :: _, _ => fun _ => False
def LvC (m : Value) (K : WP) : WP := fun w => match m with
  | .tuple vs => LvL vs.toList K w
  | _ => False
def LvW (m : Value) (K : WP) : WP := match m with
  | .tuple ⟨[]⟩ => K
  | m => LvC m K
def ResL (P : Program) : List ResultVar → Env → List Value → (List Value → WP) → WP
  | [], _, acc, K => K acc
  | .tmp t :: r, ρ, acc, K => ResL P r ρ (acc ++ [(ρ t).v]) K
  | .cell t ty :: r, ρ, acc, K => match P.underlying ty with
    | some (.struct _) | some (.array _ _) => (match P.info? ty with | some i => LdN i.size (ρ t).v fun v => ResL P r ρ (acc ++ [v]) K | none => fun _ => False)
    | some _ => Ld1 (ρ t).v fun v => ResL P r ρ (acc ++ [v]) K
    | none => fun _ => False
def tupl : List Value → Value
  | [v] => v
  | vs => .tuple vs.toArray
def env0 (args : List Value) : Env := fun i => cond (Nat.beq i MK) (dy (.tuple #[])) (match args[i]? with | some v => dy v | none => su)
def resTmps : List ResultVar → List Nat
  | [] => []
  | .tmp t :: r => t :: resTmps r
  | .cell t _ :: r => t :: resTmps r
/-- What a function asks. -/
def WF (P : Program) (fn : Func) (args : List Value) (K : Value → WP) : WP := match fn.body with
  | none => fun _ => False
  | some c => W P fn.ntmps c none (MK :: resTmps fn.results.toList) (env0 args) fun e ρ => match e with
    | .normal => LvW (ρ MK).v (ResL P fn.results.toList ρ [] fun vs => K (tupl vs))
    | .ret => LvW (ρ MK).v (ResL P fn.results.toList ρ [] fun vs => K (tupl vs))
    | _ => fun _ => False

theorem LvW_C {m : Value} {K : WP} {w : World} (h : LvW m K w) : LvC m K w := by
  unfold LvW at h
  split at h
  · exact h
  · exact h
def resOf (tmps : Array Value) : ResultVar → Sem Value
  | .tmp t => pure (tmps.getD t undef)
  | .cell a t => do loadVar t (← asAddr (tmps.getD a undef))
theorem results_eq (fn : Func) (tmps : Array Value) : results fn tmps = (do
  let vs ← fn.results.mapM (resOf tmps)
  pure (if h : vs.size = 1 then vs[0] else .tuple vs)) := rfl
theorem resL_run {fn : Func} {a : Act} {ρ : Env} {w : World} {K : List Value → WP} (hA : ∀ t ∈ resTmps fn.results.toList, a.tmps.getD t undef = (ρ t).v) : ∀ (l : List ResultVar) (acc : List Value), (∀ t ∈ resTmps l, t ∈ resTmps fn.results.toList) → ResL P l ρ acc K w →
    ∃ vs, K vs w ∧ (l.mapM (resOf a.tmps)).run P w = .ok (vs.drop acc.length) w ∧ vs.take acc.length = acc := by
  intro l
  induction l with
  | nil => exact fun acc _ h => ⟨acc, h, by simp, by simp⟩
  | cons x r ih =>
    intro acc hs h
    have step : ∀ v, ResL P r ρ (acc ++ [v]) K w → (resOf a.tmps x).run P w = .ok v w →
        ∃ vs, K vs w ∧ ((x :: r).mapM (resOf a.tmps)).run P w = .ok (vs.drop acc.length) w ∧ vs.take acc.length = acc := by
      intro v hr hv
      obtain ⟨vs, hk, hrun, htk⟩ := ih (acc ++ [v]) (fun t ht => hs t (by cases x <;> simp [resTmps, ht])) hr
      have hlen : acc.length + 1 ≤ vs.length := by
        have := congrArg List.length htk
        simp at this; omega
      have hv' : vs[acc.length]? = some v := by
        have : (vs.take (acc.length + 1))[acc.length]? = some v := by
          have h1 : vs.take (acc.length + 1) = acc ++ [v] := by simpa using htk
          rw [h1]; simp
        rw [List.getElem?_take_of_lt (by omega)] at this
        exact this
      refine ⟨vs, hk, ?_, ?_⟩
      · rw [List.mapM_cons, Sem.run_bind]
        rw [hv]
        simp only [Result.andThen_ok, Sem.run_bind, hrun, Sem.run_pure]
        congr 1
        rw [List.getElem?_eq_getElem (by omega)] at hv'
        rw [List.drop_eq_getElem_cons (i := acc.length) (by omega), Option.some.inj hv']
        simp
      · have : (vs.take (acc.length + 1)).take acc.length = (acc ++ [v]).take acc.length := by
          have h1 : vs.take (acc.length + 1) = acc ++ [v] := by simpa using htk
          rw [h1]
        rw [List.take_take] at this
        simpa using this
    cases x with
    | tmp t =>
      refine step (ρ t).v h ?_
      simp only [resOf, hA t (hs t (by simp [resTmps])), Sem.run_pure]
    | cell t ty =>
      have ht := hA t (hs t (by simp [resTmps]))
      unfold ResL at h
      cases hd : P.underlying ty with
      | none => rw [hd] at h; exact h.elim
      | some d =>
        rw [hd] at h
        have one : dAgg d = false → Ld1 (ρ t).v (fun v => ResL P r ρ (acc ++ [v]) K) w → ∃ vs, K vs w ∧ ((ResultVar.cell t ty :: r).mapM (resOf a.tmps)).run P w = .ok (vs.drop acc.length) w ∧ vs.take acc.length = acc := by
          intro hag h
          obtain ⟨p, v, hp, hc, hv⟩ := h
          refine step v hv ?_
          simp only [resOf, ht, hp, asAddr, loadVar, Sem.run_bind, Sem.run_pure, Result.andThen_ok, run_isAgg hd, hag, Bool.false_eq_true, if_false, run_load, hc]
        have agg : dAgg d = true → ∀ i, P.info? ty = some i → LdN i.size (ρ t).v (fun v => ResL P r ρ (acc ++ [v]) K) w → ∃ vs, K vs w ∧ ((ResultVar.cell t ty :: r).mapM (resOf a.tmps)).run P w = .ok (vs.drop acc.length) w ∧ vs.take acc.length = acc := by
          intro hag i hi h
          obtain ⟨p, vs, hp, hl, hc, hv⟩ := h
          refine step _ hv ?_
          simp only [resOf, ht, hp, asAddr, loadVar, Sem.run_bind, Sem.run_pure, Result.andThen_ok, run_isAgg hd, hag, if_true, run_sizeOf hi, ← hl, run_cells hc]
        cases d with
        | struct fs =>
          cases hi : P.info? ty with
          | none => simp only [hi] at h
          | some i => simp only [hi] at h; exact agg rfl i hi h
        | array m e =>
          cases hi : P.info? ty with
          | none => simp only [hi] at h
          | some i => simp only [hi] at h; exact agg rfl i hi h
        | _ => exact one rfl h

theorem res_run {fn : Func} {a : Act} {ρ : Env} {w : World} {K : Value → WP} (hA : ∀ t ∈ resTmps fn.results.toList, a.tmps.getD t undef = (ρ t).v) (h : ResL P fn.results.toList ρ [] (fun vs => K (tupl vs)) w) :
    ∃ v, (results fn a.tmps).run P w = .ok v w ∧ K v w := by
  obtain ⟨vs, hk, hrun, _⟩ := resL_run hA fn.results.toList [] (fun _ h => h) h
  refine ⟨tupl vs, ?_, hk⟩
  rw [results_eq, Sem.run_bind]
  have e : (fn.results.mapM (resOf a.tmps)).run P w = .ok vs.toArray w := by
    rw [← Array.toArray_toList (xs := fn.results), List.mapM_toArray, Sem.run_map, hrun]
    simp
  rw [e]
  simp only [Result.andThen_ok, Sem.run_pure]
  match vs with
  | [] => rfl
  | [v] => rfl
  | _ :: _ :: _ => rfl

theorem lv_out {fn : Func} {a : Act} {K : Value → WP} (N : WP) (hN : ∀ w, N w → ∃ v, (results fn a.tmps).run P w = .ok v w ∧ K v w) :
    ∀ (vs : List Value) (w : World), LvL vs N w → LeavesInM (FR none) 0 P fn a.tmps (fun e w' => ∃ v, e = .returned v ∧ K v w') (vs.map fun | .pointer (some a) => { target := .collected a.block, args := #[] } | _ => default) .returning w
  | [], w, h => by
    obtain ⟨v, hv, hk⟩ := hN w h
    exact ⟨v, hv, v, rfl, hk⟩
  | x :: r, w, h => by
    cases x with
    | pointer p =>
      cases p with
      | none => exact h.elim
      | some p =>
        obtain ⟨hh, h⟩ := h
        refine ⟨by simp, .inl ⟨p.block, _, rfl, ?_, lv_out N hN r _ h⟩⟩
        unfold Instr.takeDeferred
        simp [getObj, setObj, Sem.run, hh, World.put']
    | _ => exact h.elim

theorem WF_sound (hm : P.follows .mixedOrders = true) {f : FuncId} {fn : Func} {c : Code} (hf : P.funcs[f]? = some fn) (hb : fn.body = some c) (hn : Nat.ble fn.ntmps MK = true) (hok : codeOk fn.ntmps c = true) (hres : tmpsOk fn.ntmps (resTmps fn.results.toList) = true)
    {args : List Value} (hargs : Nat.ble args.length fn.ntmps = true) {K : Value → WP} {w : World} (h : WF P fn args K w) : Cl P f args.toArray K w := by
  have hn' : fn.ntmps ≤ MK := Nat.le_of_ble_eq_true hn
  have ha' : args.length ≤ fn.ntmps := Nat.le_of_ble_eq_true hargs
  refine calls_of_in (ro := none) (n := 0) (callsIn_of_wp_marks hf hb trivial (hro := rfl) ?_)
  unfold WF at h
  rw [hb] at h
  have hA : Agree fn.ntmps { tmps := args.toArray ++ Array.replicate (fn.ntmps - args.toArray.size) undef, defers := [] } (env0 args).val := by
    refine ⟨by simp; omega, fun i hi => ?_, rfl⟩
    have : Nat.beq i MK = false := by rw [← Bool.not_eq_true]; simp; omega
    simp only [Env.val, env0, this, cond_false]
    rw [Array.getD_eq_getD_getElem?]
    by_cases hl : i < args.length
    · rw [Array.getElem?_append_left (by simpa using hl)]
      rw [List.getElem?_eq_getElem hl]
      simp [hl, dy]
    · rw [Array.getElem?_append_right (by simp; omega)]
      rw [List.getElem?_eq_none (by omega)]
      simp only [List.size_toArray, Array.getElem?_replicate]
      split <;> rfl
  refine wpIn_mono (W_sound hn' hm c hok none _ _ _ _ w hA (fun i => by
    unfold env0
    cases Nat.beq i MK with
    | true => trivial
    | false =>
      simp only [cond_false]
      split
      · trivial
      · exact good_su) ⟨#[], rfl⟩ h) ?_
  rintro e a' w' ⟨ho, ρ', hA', _, _, ⟨vs, hvs⟩, hq⟩
  have fin : LvW (ρ' MK).v (ResL P fn.results.toList ρ' [] fun vs => K (tupl vs)) w' → LeavesInM (FR none) 0 P fn a'.tmps (fun e w' => ∃ v, e = .returned v ∧ K v w') a'.defers .returning w' := by
    intro hl
    have hl := LvW_C hl
    rw [hvs] at hl
    have := lv_out (P := P) (fn := fn) (a := a') (K := K) _ (fun w hw => res_run (fun t ht => hA'.tmp t (by
      have := allB_iff.1 hres t ht
      have : t + 1 ≤ fn.ntmps := by simpa [Nat.blt] using this
      omega)) hw) vs.toList w' hl
    rw [hA'.defers, show ρ'.val MK = _ from hvs]
    exact this
  cases e with
  | normal => exact fin hq
  | ret => exact fin hq
  | _ => first | exact hq.elim | exact ho.elim

def fnOk (fn : Func) (k : Nat) : Bool := match fn.body with
  | none => false
  | some c => cond (Nat.ble fn.ntmps MK) (cond (codeOk fn.ntmps c) (cond (tmpsOk fn.ntmps (resTmps fn.results.toList)) (Nat.ble k fn.ntmps) false) false) false
theorem cl_of (hm : P.follows .mixedOrders = true) {f : FuncId} {fn : Func} (hf : P.funcs[f]? = some fn) {args : List Value} (hok : fnOk fn args.length = true) {K : Value → WP} {w : World} (h : WF P fn args K w) : Cl P f args.toArray K w := by
  unfold fnOk at hok
  cases hb : fn.body with
  | none => rw [hb] at hok; cases hok
  | some c =>
    rw [hb] at hok
    dsimp only at hok
    cases h1 : Nat.ble fn.ntmps MK <;> rw [h1] at hok <;> (try cases hok)
    cases h2 : codeOk fn.ntmps c <;> rw [h2] at hok <;> (try cases hok)
    cases h3 : tmpsOk fn.ntmps (resTmps fn.results.toList) <;> rw [h3] at hok <;> (try cases hok)
    exact WF_sound hm hf hb h1 h2 h3 hok h
end
end Go.Jac
