/- Every operation is right, and operations in a row. -/
import Derived.Test.YtcdkbkgpgemfgaaGreatDoorKp
set_option maxRecDepth 100000
namespace Go.Jac
open Go

/-- Calls are right. -/
structure HOk (AT : Nat → Nat → Value) (P : Program) (w0 : World) (F : List HP) (cl : Bool → Nat → List X → XS → R (X × XS)) : Prop where
  enters : ∀ k args S p, cl true k args S = .ok p → ∀ a w, (callFunc k a).run P w = .ok (.enter k a) w
  fn : ∀ k args S x S', cl true k args S = .ok (x, S') → ∀ (σ : Sg) vs w (K : Value → WP), DL AT σ args vs → Rep AT P w0 F σ S w → (∀ σ' v w', σ.le σ' → Rep AT P w0 F σ' S' w' → den AT σ' x = some v → K v w') → Cl P k vs.toArray K w
  yd : ∀ l args S x S', cl false l args S = .ok (x, S') → ∀ (σ : Sg) g vs w (K : Value → WP), σ l = some g → DL AT σ args vs → Rep AT P w0 F σ S w → (∀ σ' v w', σ.le σ' → Rep AT P w0 F σ' S' w' → den AT σ' x = some v → K v w') → FnV P (.func (.yield g.ad) #[] #[]) vs.toArray K w
section
variable {AT : Nat → Nat → Value} {P : Program} {GL : Gv} {σ : Sg} {w0 w : World} {F : List HP} {S S' : XS} {x : X} {K : Value → WP} {cl : Bool → Nat → List X → XS → R (X × XS)}
theorem elem_x {t : TypeId} {e : TypeId × TypeInfo × Value} (h : xElem P t = .ok e) : ∀ {C : TypeId → TypeInfo → Value → WP}, C e.1 e.2.1 e.2.2 w → elemV P t C w := elemV_of h
theorem nat_x {y : X} {n : Nat} (h : xNat y = .ok n) : ∃ k, y = .int k (n : Int) := by
  unfold xNat at h
  split at h
  · cases h; exact ⟨_, rfl⟩
  · cases h
theorem rowZ_eq (zero : Array Value) (n : Nat) : rowZ zero n = (Array.range n).map (zero[· % zero.size]!) := rfl
theorem dl_map_fst {E : XE} {ρ : Env} (he : EnvR AT σ E ρ) {parts : Array (Nat × Operand)} (hx : allB (fun p => flat1 p.2) (parts.toList.map fun p => (p.1, opX E p.2)) = true) :
    DL AT σ ((parts.toList.map fun p => (p.1, opX E p.2)).map (·.2)) ((evp ρ parts).toList.map (·.2)) := by
  unfold evp
  have hx' : allB isX ((parts.toList.map (·.2)).map (opX E)) = true := allB_iff.2 fun y hy => by
    obtain ⟨o, ho, rfl⟩ := List.mem_map.1 hy
    obtain ⟨p, hp, rfl⟩ := List.mem_map.1 ho
    have := allB_iff.1 hx (p.1, opX E p.2) (List.mem_map.2 ⟨p, hp, rfl⟩)
    revert this
    show flat1 (opX E p.2) = true → isX (opX E p.2) = true
    generalize opX E p.2 = z
    intro this
    cases z <;> first | rfl | (simp [flat1] at this)
  have := op_dens he hx'
  simpa [List.map_map, Function.comp_def] using this
def allocV (P : Program) (t : TypeId) (K : Value → WP) : WP := match P.info? t with
    | some i => (match i.zero with | some z => New t z.cells K | none => fun _ => False)
    | none => fun _ => False
theorem mapUpd_x {t : TypeId} {m kk y : Operand} {E : XE} {ρ : Env} (he : EnvR AT σ E ρ) (r : Rep AT P w0 F σ S w) (h : xMapUpd P S t (opX E m) (opX E kk) (opX E y) = .ok (x, S')) {KS : SV → WP} (k : ∀ σ' s w', σ.le σ' → Rep AT P w0 F σ' S' w' → RelX AT σ' x s → KS s w') :
    Ex P (do Instr.mapUpdate t (ev ρ m) (ev ρ kk) (ev ρ y); pure undef) (fun v => KS (dy v)) w := by
  unfold xMapUpd at h
  split at h
  · rename_i kt et hu
    replace h := need_ok h
    obtain ⟨hk, h⟩ := h
    have hk := isI64_ok hk
    split at h
    · rename_i b n hm hkk
      split at h
      · rename_i es hf
        replace h := need_ok h
        obtain ⟨hx, h⟩ := h
        rw [XS.updK_eq] at h
        cases h
        have dm := op_den he (x := m) (by rw [hm]; rfl)
        have dk := op_den he (x := kk) (by rw [hkk]; rfl)
        rw [hm] at dm; rw [hkk] at dk
        have := mapup_x (w := w) (K := fun v => KS (dy v)) hu hk r hf dm (op_den he hx) fun w' r' => k σ _ w' (Sg.le.refl σ) r' trivial
        rw [← den_int.1 dk] at this
        exact this
      · cases h
    · cases h
  · cases h
theorem op_ok (hAT : ∀ i c, (AT i c).oneCell' = true) (hG : GLok AT GL w0 F) (hH : HOk AT P w0 F cl) {o : Oper} {E : XE} {ρ : Env} (he : EnvR AT σ E ρ) (r : Rep AT P w0 F σ S w) (h : xOp P GL cl o E S = .ok (x, S'))
    {KS : SV → WP} (k : ∀ σ' s w', σ.le σ' → Rep AT P w0 F σ' S' w' → RelX AT σ' x s → KS s w') : OpV P o ρ KS w := by
  have hread : ∀ o : Oper, ((xRead P GL o E S).bind fun x => .ok (x, S)) = .ok (x, S') → OpV P o ρ KS w := by
    intro o h
    obtain ⟨y, h1, h2⟩ := R.bind_ok h
    cases h2
    obtain ⟨v, h3, h4⟩ := read_ok hAT hG he r.d h1
    exact h4 KS fun s hs hg => k σ s w (Sg.le.refl σ) r (.of h3 hs hg)
  have kd : ∀ σ' v w', σ.le σ' → Rep AT P w0 F σ' S' w' → den AT σ' x = some v → KS (dy v) w' := fun σ' v w' hl hr hv => k σ' _ w' hl hr (.dy hv)
  obtain ⟨dst, op, ty, pos, after, guard⟩ := o
  unfold xOp at h
  simp only [XS.addK_eq] at h
  split at h
  · cases h
    exact k σ _ w (Sg.le.refl σ) r (op_rel he _)
  · cases h
    exact k σ _ w (Sg.le.refl σ) r (op_rel he _)
  · rename_i t
    split at h
    · rename_i i hi
      split at h
      · rename_i z hz
        cases h
        have : New t z.cells.toList.toArray (fun v => KS (dy v)) w := new_x r (DL.of1s z.cells.toList) kd
        rw [Array.toArray_toList] at this
        show allocV P t (fun v => KS (dy v)) w
        unfold allocV
        rw [hi]; dsimp only; rw [hz]
        exact this
      · cases h
    · cases h
  · rename_i t y
    replace h := need_ok h
    obtain ⟨hf, h⟩ := h
    cases h
    have hx : isX (opX E y) = true := by
      revert hf; generalize opX E y = z; intro hf
      cases z <;> first | rfl | (simp [flat1] at hf)
    have hc := flat_cells hAT hf (op_den he hx)
    have : New t (ev ρ y).cells.toList.toArray (fun v => KS (dy v)) w := new_x r hc kd
    rw [Array.toArray_toList] at this
    exact this
  · rename_i t len parts
    replace h := R.bind_ok h
    obtain ⟨e, h0, h⟩ := h
    replace h := need_ok h
    obtain ⟨h1, h⟩ := h
    replace h := need_ok h
    obtain ⟨h2, h⟩ := h
    replace h := R.bind_ok h
    obtain ⟨cs, h3, h⟩ := h
    cases h
    refine elem_x h0 (C := fun e i z => BSlC e i.size z.cells len (evp ρ parts) fun v => KS (dy v)) ?_
    obtain ⟨us, u1, u2⟩ := fill_x (σ := σ) (vp := (evp ρ parts).toList) hAT (R.of_ok h3) (DL.of1s _) h2 (by unfold evp; simp [Function.comp_def]) (dl_map_fst he h2)
    rw [Array.toArray_toList] at u1
    refine ⟨ble_le h1, us.toArray, ?_, ?_⟩
    · rw [← rowZ_eq]; exact u1
    · exact kd _ _ _ r.le (r.alloc0 (cap := 0) u2) (den_sl.2 ⟨Nat.le_refl _, _, Sg.add_at _ _ _, rfl⟩)
  · rename_i t a y
    replace h := R.bind_ok h
    obtain ⟨S1, h0, h⟩ := h
    cases h
    exact store_x hAT r h0 (ev ρ a) (ev ρ y) (fun hx => op_den he hx) (fun hx => op_den he hx) (fun v => KS (dy v)) fun w' r' => k σ _ w' (Sg.le.refl σ) r' trivial
  · cases h
    exact mkmap_x r kd
  · rename_i t l c
    replace h := R.bind_ok h
    obtain ⟨e, h0, h⟩ := h
    replace h := R.bind_ok h
    obtain ⟨ln, h1, h⟩ := h
    replace h := R.bind_ok h
    obtain ⟨cn, h2, h⟩ := h
    replace h := need_ok h
    obtain ⟨h3, h⟩ := h
    replace h := need_ok h
    obtain ⟨h4, h⟩ := h
    replace h := need_ok h
    obtain ⟨h5, h⟩ := h
    cases h
    obtain ⟨k1, q1⟩ := nat_x h1
    obtain ⟨k2, q2⟩ := nat_x h2
    have d1 := op_den he (x := l) (by rw [q1]; rfl)
    have d2 := op_den he (x := c) (by rw [q2]; rfl)
    rw [q1] at d1; rw [q2] at d2
    refine elem_x h0 (C := fun e i z => MkSC e i.size i.bytes z.cells (ev ρ l) (ev ρ c) fun v => KS (dy v)) ?_
    have h3 := ble_le h3; have h4 := ble_le h4; have h5 := ble_le h5
    refine ⟨k1, k2, ln, cn, den_int.1 d1, den_int.1 d2, by omega, by omega, by rw [← Int.natCast_mul]; omega, by omega, ?_⟩
    simp only [Int.toNat_natCast]
    have := r.alloc0 (t := e.1) (cap := 0) (DL.of1s (madeCells e.2.2.cells (cn * e.2.1.size)).toList)
    rw [Array.toArray_toList] at this
    exact kd _ _ _ r.le this (den_sl.2 ⟨h3, _, Sg.add_at _ _ _, rfl⟩)
  · rename_i t m kk y
    exact mapUpd_x he r h k
  · rename_i t m kk y
    exact mapUpd_x he r h k
  · rename_i t m kk
    obtain ⟨i1, i2, h2⟩ := mapEntry_x r h
    exact h2 _ _ (op_den he i1) (op_den he i2) (fun v => KS (dy v)) kd
  · rename_i t m s y
    obtain ⟨i1, i2, i3, e, h2⟩ := entryStore_x (t := t) r h
    subst e
    exact h2 _ _ _ (op_den he i1) (op_den he i2) (op_den he i3) (fun v => KS (dy v)) fun w' r' => k σ _ w' (Sg.le.refl σ) r' trivial
  · rename_i t m
    obtain ⟨i1, h2⟩ := range_x r h
    exact h2 _ (op_den he i1) (fun v => KS (dy v)) kd
  · rename_i it isS
    obtain ⟨i1, h2⟩ := next_x (ty := ty) r h
    exact h2 _ (op_den he i1) (fun v => KS (dy v)) kd
  · rename_i it
    obtain ⟨i1, h2⟩ := entry_x r h
    exact h2 _ (op_den he i1) (fun v => KS (dy v)) kd
  · rename_i c
    obtain ⟨callee, args, ats⟩ := c
    dsimp only at h
    split at h
    · rename_i f
      split at h
      · rename_i kf a cs hf
        replace h := need_ok h
        obtain ⟨hx, h⟩ := h
        have df := op_den he (x := f) (by rw [hf]; rfl)
        rw [hf] at df
        obtain ⟨as, us, a1, a2, hv⟩ := den_fn.1 df
        have hargs := op_dens he hx
        show FnV P (ev ρ f) (evs ρ args) _ w
        rw [hv]
        refine .inl ⟨hH.enters _ _ _ _ h, ?_⟩
        have := hH.fn _ _ _ _ _ h σ (as ++ args.toList.map (ev ρ) ++ us) w (fun v => KS (dy v)) ((a1.app hargs).app a2) r kd
        unfold evs
        simpa using this
      · rename_i b hf
        replace h := need_ok h
        obtain ⟨hx, h⟩ := h
        have df := op_den he (x := f) (by rw [hf]; rfl)
        rw [hf] at df
        obtain ⟨g, hg, hv⟩ := den_yld.1 df
        show FnV P (ev ρ f) (evs ρ args) _ w
        rw [hv]
        exact hH.yd _ _ _ _ _ h σ g _ w (fun v => KS (dy v)) hg (op_dens he hx) r kd
      · cases h
    · unfold xAppend at h
      split at h
      · rename_i t t' s y hats hargs
        cases hsl : isSl P t' with
        | false => rw [hsl] at h; cases h
        | true =>
          rw [hsl] at h
          simp only [cond_true] at h
          replace h := R.bind_ok h
          obtain ⟨e, h0, h⟩ := h
          replace h := need_ok h
          obtain ⟨h1, h⟩ := h
          obtain ⟨i1, i2, h2⟩ := app_x (w := w) hAT (beq_eq h1) r h
          have hall : allB isX (args.toList.map (opX E)) = true := by rw [hargs]; simp only [allB, i1, i2, cond_true]
          have hd := op_dens he hall
          rw [hargs] at hd
          show appV P ats ty (evs ρ args) ats.toList (args.toList.map (ev ρ)) _ w
          rw [hats]
          generalize evs ρ args = ea at *
          generalize hl : args.toList.map (ev ρ) = l at hd ⊢
          match l, hd with
          | [], hd => cases hd
          | [_], hd => exact absurd (congrArg List.length hd) (by simp)
          | [vs, vy], hd =>
            unfold appV
            dsimp only
            rw [hsl, condW_true]
            exact elem_x h0 (h2 vs vy (List.cons.inj hd).1 (List.cons.inj (List.cons.inj hd).2).1 (fun v => KS (dy v)) kd)
          | _ :: _ :: _ :: _, hd => exact absurd (congrArg List.length hd) (by simp)
      · cases h
    · split at h
      · rename_i t t2 m kk hats hargs
        obtain ⟨i1, i2, h2⟩ := delete_x (ty := ty) hats r h
        have hall : allB isX (args.toList.map (opX E)) = true := by rw [hargs]; simp only [allB, i1, i2, cond_true]
        have hd := op_dens he hall
        rw [hargs] at hd
        show Ex P (Builtin.delete_ ats ty (evs ρ args)) _ w
        unfold evs
        generalize hl : args.toList.map (ev ρ) = l at hd ⊢
        match l, hd with
        | [], hd => cases hd
        | [_], hd => exact absurd (congrArg List.length hd) (by simp)
        | [vm, vk], hd => exact h2 vm vk (List.cons.inj hd).1 (List.cons.inj (List.cons.inj hd).2).1 (fun v => KS (dy v)) kd
        | _ :: _ :: _ :: _, hd => exact absurd (congrArg List.length hd) (by simp)
      · cases h
    · exact clear_x (fun hx => op_dens he hx) r h (fun v => KS (dy v)) kd
    · exact hread _ h
  · exact hread _ h
end
end Go.Jac
