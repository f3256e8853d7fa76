/- Drawn regions: the walk serves every order. -/
import Derived.Test.YtcdkbkgpgemfgaaGreatDoorBf
namespace Go.Jac
open Go

section
variable {P : Program} {n : Nat} {ro : Option Nat} {ops : Array Oper} {Q : Exit → Act → World → Prop}

def AnyState (Av : List Nat) (P : Program) (n : Nat) (ops : Array Oper) (ρ0 : VEnv) (K : Env → WP) (L : Array Bool) (a : Act) (w : World) : Prop :=
  (∃ m sg ρ, At0 Av P n ops ρ0 K L a w m sg ρ) ∨ (∃ m s sg ρ ρc vs T I M fu U C, At1 Av P n ops ρ0 K L a w m s sg ρ ρc vs T I M fu U C ∧ ∃ q, q < s.length ∧ T q = false)

theorem At0.enter {Av A : List Nat} {ρ0 : VEnv} {K : Env → WP} {L : Array Bool} {a : Act} {w : World} {m M : Nat} {s : List Oper} {sg : List (List Oper)} {ρ : Env}
    (h : At0 Av P n ops ρ0 K L a w m (s :: sg) ρ) (hw : WSeg P ops.toList (bef ops.toList []) A s m M ρ (fun ρ' => WDr P ops.toList (bef ops.toList []) Av sg (m + s.length) ρ' K) w) :
    ∃ ρc vs I U C, At1 Av P n ops ρ0 K L a w m s sg ρ.val ρc vs (fun _ => false) I M U.length U C := by
  unfold WSeg at hw
  cases hseg : segOk (bef ops.toList []) M m s.length with
  | false => rw [hseg] at hw; exact hw.elim
  | true =>
    rw [hseg] at hw
    simp only [cond_true] at hw
    have key : ∀ C : Env → WP, (∀ ρ' w', Gd ρ' → (∀ i, i ∉ dsts s → ρ'.val i = ρ.val i) → C ρ' w' → ∃ ρ'' : Env, ρ''.val = ρ'.val ∧ Gd ρ'' ∧ WDr P ops.toList (bef ops.toList []) Av sg (m + s.length) ρ'' K w') →
        (QtC fun I => WRd P ops.toList M I s m ρ fun ρ' => WCh P ops.toList (bef ops.toList []) M I s m (chL M s m).length (chL M s m) ρ' C) w →
        ∃ ρc vs I U C, At1 Av P n ops ρ0 K L a w m s sg ρ.val ρc vs (fun _ => false) I M U.length U C := by
      rintro C hfin ⟨I, hI, hq⟩
      obtain ⟨vs, ρe, hGe, hf, hc⟩ := wr_facts s m ρ _ h.good hq
      have hflat : s ++ sg.flatten = ops.toList.drop m := by rw [← h.flat]; rfl
      have hlen : m + s.length ≤ ops.size := by
        have h1 := congrArg List.length hflat
        simp only [List.length_append, List.length_drop, Array.length_toList] at h1
        have := h.le
        omega
      refine ⟨ρe, vs, I, chL M s m, C, fun i => ?_, hflat, fun x hx => h.ne x (by simp [hx]), fun k hk i j hi hj hjs => ?_, hlen, ?_, h.keep, hseg, QF_len s vs _ _ _ hf, QF_at s vs _ _ m hf, hGe, ?_, fun q o => ?_, fun x hx => ?_, Nat.le_refl _, .inl hI, hfin, hc⟩
      · rw [h.done]; simp
      · refine h.bar (k + 1) (by simp; omega) i j ?_ ?_ hjs
        · simp only [List.take_succ_cons, List.flatten_cons, List.length_append]; omega
        · simp only [List.take_succ_cons, List.flatten_cons, List.length_append]; omega
      · have : ET s vs (fun _ => false) ρ.val = ρ.val := by funext t; exact ET_none _ _ _ _ _ fun _ _ _ _ => rfl
        rw [this]; exact h.agree
      · rw [QF_env s vs _ _ m hf]
        exact ET_mask s vs _ _ _ fun q _ => by simp
      · rw [chL_mem]
        constructor
        · rintro ⟨q', h1, h2, h3⟩
          have : q' = q := by omega
          subst this
          exact ⟨h2, h3, rfl⟩
        · rintro ⟨h2, h3, _⟩; exact ⟨q, rfl, h2, h3⟩
      · obtain ⟨q, h1, _⟩ := (chL_mem (p := x.1) (o := x.2)).1 hx
        exact ⟨q, h1⟩
    cases hr : rowB (bef ops.toList []) (chL M s m) with
    | true =>
      rw [hr] at hw
      exact key _ (fun ρ' w' hg _ hc => ⟨ρ', rfl, hg, hc⟩) hw
    | false =>
      rw [hr] at hw
      simp only [cond_false] at hw
      refine key (fun ρ'' w' => ∀ j : Env, unp (liveL (dsts s) A) (vals ρ'' (liveL (dsts s) A)) (mix (dsts s) j ρ) (fun ρ' => WDr P ops.toList (bef ops.toList []) Av sg (m + s.length) ρ' K) w') (fun ρ' w' hg hk hc => unp_use hg h.good hk hc) ?_
      exact hw _ fun vs w' h => h

theorem At1.any {Av : List Nat} {ρ0 : VEnv} {K : Env → WP} {L : Array Bool} {a : Act} {w : World} {m : Nat} {s : List Oper} {sg : List (List Oper)} {ρ : VEnv} {ρc : Env} {vs : List Value} {T : Nat → Bool} {I : WP} {M fu : Nat} {U : List (Nat × Oper)} {C : Env → WP}
    (h : At1 Av P n ops ρ0 K L a w m s sg ρ ρc vs T I M fu U C) : AnyState Av P n ops ρ0 K L a w := by
  by_cases hT : ∃ q, q < s.length ∧ T q = false
  · exact .inr ⟨m, s, sg, ρ, ρc, vs, T, I, M, fu, U, C, h, hT⟩
  · obtain ⟨ρ2, h2⟩ := h.over fun q hq => by
      cases hq' : T q with
      | true => rfl
      | false => exact absurd ⟨q, hq, hq'⟩ hT
    exact .inl ⟨_, _, _, h2⟩
theorem get_set {vs : List Value} {p q : Nat} {v : Value} (h : q ≠ p) : (vs.set p v)[q]? = vs[q]? := by
  rw [List.getElem?_set_ne (fun e => h e.symm)]

/-- One operation of a segment. -/
theorem At1.step {Av : List Nat} (hn : n ≤ MK) (hall : allB (opOk n) ops.toList = true) (hd : drawOk ops.toList = true) {ρ0 : VEnv} {K : Env → WP} {L : Array Bool} {a : Act} {w : World} {m : Nat} {s : List Oper} {sg : List (List Oper)} {ρ : VEnv} {ρc : Env} {vs : List Value} {T : Nat → Bool} {I : WP} {M fu : Nat} {U : List (Nat × Oper)} {C : Env → WP}
    (h : At1 Av P n ops ρ0 K L a w m s sg ρ ρc vs T I M fu U C) (hT : ∃ q, q < s.length ∧ T q = false) (hs : L.size = ops.size) (hc : Closed ops L) {i : Nat} (hi : i ∈ Region.ready .any ops L) {l : List Nat}
    (hk : ∀ a' w', AnyState Av P n ops ρ0 K (L.setIfInBounds i true) a' w' → wpOpsIn (FR ro) 0 P ops Q l a' w') : wpOpsIn (FR ro) 0 P ops Q (i :: l) a w := by
  obtain ⟨hlt, hun, hr⟩ := ready_iff hi hs
  have hdone := dep_done hc hr
  have hm : m ≤ i := by
    rcases Nat.lt_or_ge i m with h1 | h1
    · have := (h.done i).2 (.inl h1); rw [hun] at this; cases this
    · exact h1
  have hik : i < m + s.length := by
    rcases Nat.lt_or_ge i (m + s.length) with h1 | h1
    · exact h1
    · obtain ⟨q, hq, hqT⟩ := hT
      have := hdone (m + q) (h.bar 0 (Nat.zero_le _) (m + q) i (by simp; omega) (by simp; omega) hlt)
      rcases (h.done (m + q)).1 this with h2 | ⟨_, _, h2⟩
      · omega
      · rw [show m + q - m = q from by omega, hqT] at h2; cases h2
  obtain ⟨p, rfl⟩ : ∃ p, i = m + p := ⟨i - m, by omega⟩
  have hp : p < s.length := by omega
  have hTp : T p = false := by
    cases hq : T p with
    | false => rfl
    | true =>
      have := (h.done (m + p)).2 (.inr ⟨by omega, by omega, by rw [show m + p - m = p from by omega]; exact hq⟩)
      rw [hun] at this; cases this
  obtain ⟨o, ho⟩ : ∃ o, s[p]? = some o := ⟨_, List.getElem?_eq_getElem hp⟩
  have hgo : ∀ q x, s[q]? = some x → ops.toList[m + q]? = some x := fun q x hx => by rw [Array.getElem?_toList]; exact drop_get h.flat hx
  have depT : ∀ q, q < s.length → dep (bef ops.toList []) (m + q) (m + p) = true → T q = true := by
    intro q hq hdq
    rcases (h.done (m + q)).1 (hdone _ hdq) with h2 | ⟨_, _, h2⟩
    · omega
    · rwa [show m + q - m = q from by omega] at h2
  have depF : ∀ q, q < s.length → dep (bef ops.toList []) (m + p) (m + q) = true → T q = false := by
    intro q hql h1
    cases hq : T q with
    | false => rfl
    | true =>
      have h2 : lst L (m + q) = true := (h.done (m + q)).2 (.inr ⟨by omega, by omega, by rw [show m + q - m = q from by omega]; exact hq⟩)
      have := hc _ h2 _ h1
      rw [hun] at this; cases this
  have pair : ∀ q q', q' < q → q < s.length → pairS (dep (bef ops.toList []) (m + q') (m + q)) (M.testBit (m + q')) (M.testBit (m + q)) = true := fun q q' h1 h2 => segOk_iff h.seg q q' h2 h1
  -- whoever writes what this one names
  have later : ∀ q x, s[q]? = some x → p < q → ∀ t, x.dst = some t → t ∈ namesOf ops.toList o → dep (bef ops.toList []) (m + p) (m + q) = true := by
    intro q x hx hpq t ht hm'
    rcases draw_pair hd (hgo p o ho) (hgo q x hx) (by omega) with h1 | ⟨_, h1⟩
    · exact h1
    · exact absurd hm' (h1 t ht)
  have earlier : ∀ q x, s[q]? = some x → q < p → ∀ t, x.dst = some t → t ∈ namesOf ops.toList o → dep (bef ops.toList []) (m + q) (m + p) = true := by
    intro q x hx hpq t ht hm'
    rcases draw_pair hd (hgo q x hx) (hgo p o ho) (by omega) with h1 | ⟨h1, _⟩
    · exact h1
    · exact absurd hm' (h1 t ht)
  have hlen : ∀ {q x}, s[q]? = some x → q < s.length := fun hx => (List.getElem?_eq_some_iff.1 hx).1
  have hom : o ∈ ops.toList := mem_of_drop h.flat o (List.mem_of_getElem? ho)
  have hok : opOk n o = true := allB_iff.1 hall o hom
  have hop : ops[m + p]? = some o := drop_get h.flat ho
  let T' : Nat → Bool := fun q => decide (q = p) || T q
  have hdone' : ∀ j, lst (L.setIfInBounds (m + p) true) j = true ↔ (j < m ∨ (m ≤ j ∧ j < m + s.length ∧ T' (j - m) = true)) := by
    intro j
    rw [lst_set (by omega)]
    simp only [Bool.or_eq_true, decide_eq_true_eq, h.done, T']
    constructor
    · rintro (rfl | h1 | ⟨h1, h2, h3⟩)
      · exact .inr ⟨by omega, by omega, .inl (by omega)⟩
      · exact .inl h1
      · exact .inr ⟨h1, h2, .inr h3⟩
    · rintro (h1 | ⟨h1, h2, h3 | h3⟩)
      · exact .inr (.inl h1)
      · exact .inl (by omega)
      · exact .inr (.inr ⟨h1, h2, h3⟩)
  -- the environment with one more
  have more : ∀ (v : Value) (vs' : List Value) (E E' : Nat → Bool), vs'.length = vs.length → vs'[p]? = some v → (∀ q, q ≠ p → vs'[q]? = vs[q]?) → E' p = true → (∀ q, q ≠ p → q < s.length → E' q = E q) → (∀ q x, s[q]? = some x → p < q → ∀ t, x.dst = some t → t ∈ namesOf ops.toList o → E q = false) →
      (ET s vs E ρ).put o.dst v = ET s vs' E' ρ := by
    intro v vs' E E' hl hv hvq hEp hEq hlat
    funext t
    by_cases ht : o.dst = some t
    · rw [ht]
      simp only [VEnv.put, VEnv.upd_same]
      refine (ET_at s vs' E' ρ p o v t ho hv ht hEp fun q x hx hxd hlt => ?_).symm
      rw [hEq q (by omega) (hlen hx)]
      exact hlat q x hx hlt t hxd (List.mem_append_left _ (by rw [ht]; simp))
    · rw [VEnv.put_keep fun x hx e => ht (by rw [hx, e])]
      refine ET_congr s vs vs' _ _ ρ ρ t hl.symm (fun q x hx hxd => ?_) rfl
      have e : q ≠ p := fun e => by subst e; rw [ho] at hx; cases hx; exact ht hxd
      exact ⟨(hEq q e (hlen hx)).symm, fun _ => (hvq q e).symm⟩
  have evs_of : ∀ (E : Nat → Bool), (∀ q x, s[q]? = some x → ∀ t, x.dst = some t → t ∈ namesOf ops.toList o → T q = E q) → (∀ t, t ∈ namesOf ops.toList o → ET s vs T ρ t = ET s vs E ρ t) ∧ ∀ x ∈ o.op.operands, a.eval x = evV (ET s vs E ρ) x := by
    intro E hE
    have same : ∀ t, t ∈ namesOf ops.toList o → ET s vs T ρ t = ET s vs E ρ t := fun t ht =>
      ET_congr s vs vs _ _ ρ ρ t rfl (fun q x hx hxd => ⟨hE q x hx t hxd ht, fun _ => rfl⟩) rfl
    refine ⟨same, fun x hx => ?_⟩
    rw [h.agree.ev_eq (opOk_reads hok x hx)]
    cases x with
    | tmp t =>
      refine same t (List.mem_append_right _ (List.mem_append_left _ ?_))
      exact List.mem_flatMap.2 ⟨.tmp t, by simpa using hx, by simp [rdOf]⟩
    | _ => rfl
  simp only [wpOpsIn, hop]
  cases hMp : M.testBit (m + p) with
  | false =>
    obtain ⟨v, hv, hst⟩ := h.facts p o ho hMp
    have hE : ∀ q x, s[q]? = some x → ∀ t, x.dst = some t → t ∈ namesOf ops.toList o → T q = (decide (q < p) && !M.testBit (m + q)) := by
      intro q x hx t hxd ht
      rcases Nat.lt_trichotomy q p with h1 | h1 | h1
      · have hdq := earlier q x hx h1 t hxd ht
        have := pair p q h1 hp
        rw [depT q (hlen hx) hdq]
        rw [hdq, hMp] at this
        cases hq : M.testBit (m + q) with
        | false => simp [h1]
        | true => rw [hq] at this; cases this
      · subst h1; rw [hTp]; simp
      · rw [depF q (hlen hx) (later q x hx h1 t hxd ht)]
        have : ¬ q < p := by omega
        simp [this]
    obtain ⟨same, hev⟩ := evs_of _ hE
    have next : ∀ a' w', a' = a.put o.dst v → w' = w → wpOpsIn (FR ro) 0 P ops Q l a' w' := by
      rintro a' w' rfl rfl
      refine hk _ _ (At1.any (m := m) (s := s) (sg := sg) (ρ := ρ) (ρc := ρc) (vs := vs) (T := T') (I := I) (M := M) (fu := fu) (U := U) (C := C) ⟨hdone', h.flat, h.ne, h.bar, h.le, ?_, h.keep, h.seg, h.vlen, h.facts, h.good, ?_, fun q x => ?_, h.inU, h.fuel, ?_, h.fin, h.walk⟩)
      · rw [← more v vs T T' rfl hv (fun _ _ => rfl) (by simp [T']) (fun q hq _ => by simp [T', hq]) fun q x hx h1 t hxd ht => depF q (hlen hx) (later q x hx h1 t hxd ht)]
        exact h.agree.put hn v (opOk_dst hok)
      · rw [h.env]
        refine ET_mask s vs _ _ ρ fun q _ => ?_
        by_cases e : q = p
        · subst e; simp [hMp]
        · simp [T', e]
      · rw [h.ahead q x]
        by_cases e : q = p
        · subst e; rw [hMp]; simp
        · simp [T', e]
      · rcases h.inv with hI | hall'
        · exact .inl hI
        · exact .inr fun q x hx h1 h2 => by simp [T', hall' q x hx h1 h2]
    have hinv : noMem o = false → I w := fun hpu => by
      rcases h.inv with hI | hall'
      · exact hI
      · have := hall' p o ho hMp hpu
        rw [hTp] at this; cases this
    unfold QStep at hst
    cases hg : o.guard with
    | none =>
      rw [hg] at hst
      have hw : Region.wanted o (yielded ops a.tmps) = true := by simp [Region.wanted, hg]
      rw [if_pos hw]
      obtain ⟨ρ1, hv1, hG1, hq⟩ := hst
      exact opV_sound hG1 (fun x hx => by rw [ev_val, hv1]; exact hev x hx) (fun s' w' _ ⟨e, hw'⟩ => next _ w' (by rw [e]) hw') (hq w hinv)
    | some jb =>
      obtain ⟨j, b⟩ := jb
      rw [hg] at hst
      obtain ⟨g, hgd, hst⟩ := hst
      have hy := yielded_eq h.agree hall hgd
      rw [same g (by unfold namesOf; rw [hg]; simp only [hgd]; simp)] at hy
      have hwd : Region.wanted o (yielded ops a.tmps) = (yielded ops a.tmps j == some b) := by simp [Region.wanted, hg]
      rcases hst with ⟨hx, hst⟩ | ⟨hx, rfl⟩
      · have hw : Region.wanted o (yielded ops a.tmps) = true := by rw [hwd, hy, hx]; simp
        rw [if_pos hw]
        obtain ⟨ρ1, hv1, hG1, hq⟩ := hst
        exact opV_sound hG1 (fun x hx => by rw [ev_val, hv1]; exact hev x hx) (fun s' w' _ ⟨e, hw'⟩ => next _ w' (by rw [e]) hw') (hq w hinv)
      · have hw : ¬ Region.wanted o (yielded ops a.tmps) = true := by
          rw [hwd, hy]
          cases hv' : ET s vs (fun q => decide (q < p) && !M.testBit (m + q)) ρ g with
          | bool c => simp; intro e; subst e; exact hx hv'
          | _ => simp
        rw [if_neg hw]
        exact ⟨fun f _ => FR_fn ro f, next _ w rfl rfl⟩
  | true =>
    have hmem : (m + p, o) ∈ U := (h.ahead p o).2 ⟨ho, hMp, hTp⟩
    have hfr : frontB (bef ops.toList []) (m + p) U = true := by
      refine frontB_iff fun x hx hne => ?_
      obtain ⟨q, hq⟩ := h.inU x hx
      obtain ⟨h1, _, h3⟩ := (h.ahead q x.2).1 (by rw [← hq]; exact hx)
      rw [hq]
      cases hdq : dep (bef ops.toList []) (m + q) (m + p) with
      | false => rfl
      | true => rw [depT q (hlen h1) hdq] at h3; cases h3
    obtain ⟨fu', rfl⟩ : ∃ f, fu = f + 1 := by
      have h1 : 0 < U.length := List.length_pos_of_mem hmem
      have h2 := h.fuel
      exact ⟨fu - 1, by omega⟩
    have hw : (WOps P ops.toList [o] ρc fun ρ' => condW (needI (bef ops.toList []) M (m + p) s m) (CH I (WCh P ops.toList (bef ops.toList []) M I s m fu' (dropU (m + p) U) ρ' C)) (WCh P ops.toList (bef ops.toList []) M I s m fu' (dropU (m + p) U) ρ' C)) w := by
      have hwk := h.walk
      cases U with
      | nil => cases hmem
      | cons u r => exact allW_mem hwk _ (List.mem_map.2 ⟨(m + p, o), fronts_mem hfr hmem, rfl⟩)
    have rdl : ∀ q x, s[q]? = some x → p < q → ∀ t, x.dst = some t → t ∈ namesOf ops.toList o → M.testBit (m + q) = true := by
      intro q x hx h1 t hxd ht
      have := pair q p h1 (hlen hx)
      rw [later q x hx h1 t hxd ht, hMp] at this
      cases hMq : M.testBit (m + q) with
      | true => rfl
      | false => rw [hMq] at this; cases this
    have henv := h.env
    have hE : ∀ q x, s[q]? = some x → ∀ t, x.dst = some t → t ∈ namesOf ops.toList o → T q = (!M.testBit (m + q) || T q) := by
      intro q x hx t hxd ht
      rcases Nat.lt_trichotomy q p with h1 | h1 | h1
      · rw [depT q (hlen hx) (earlier q x hx h1 t hxd ht)]; simp
      · subst h1; rw [hTp, hMp]; rfl
      · rw [rdl q x hx h1 t hxd ht]; rfl
    obtain ⟨same, hev⟩ := evs_of _ hE
    rw [← henv] at same hev
    have next : ∀ (ρ1 : Env) (sv : SV) (a' : Act) (w' : World), Gd ρ1 → ρ1.val = ρc.val → sv.Good → a' = a.put o.dst sv.v →
        (condW (needI (bef ops.toList []) M (m + p) s m) (CH I (WCh P ops.toList (bef ops.toList []) M I s m fu' (dropU (m + p) U) (ρ1.put o.dst sv) C))
          (WCh P ops.toList (bef ops.toList []) M I s m fu' (dropU (m + p) U) (ρ1.put o.dst sv) C)) w' → wpOpsIn (FR ro) 0 P ops Q l a' w' := by
      rintro ρ1 sv a' w' hG1 hv1 hsv rfl hw'
      have hinv : (I w' ∨ ∀ q x, s[q]? = some x → M.testBit (m + q) = false → noMem x = false → T' q = true) ∧ WCh P ops.toList (bef ops.toList []) M I s m fu' (dropU (m + p) U) (ρ1.put o.dst sv) C w' := by
        cases hni : needI (bef ops.toList []) M (m + p) s m with
        | true => rw [hni] at hw'; exact ⟨.inl hw'.1, hw'.2⟩
        | false =>
          rw [hni] at hw'
          exact ⟨.inr fun q x hx h1 h2 => by simp [T', depT q (hlen hx) (needI_iff hni q x hx h2 h1)], hw'⟩
      have hvl : (vs.set p sv.v).length = vs.length := by simp
      have hvp : (vs.set p sv.v)[p]? = some sv.v := by rw [List.getElem?_set_self (by rw [h.vlen]; exact hp)]
      have hvq : ∀ q, q ≠ p → (vs.set p sv.v)[q]? = vs[q]? := fun q hq => get_set hq
      refine hk _ _ (At1.any (m := m) (s := s) (sg := sg) (ρ := ρ) (ρc := ρ1.put o.dst sv) (vs := vs.set p sv.v) (T := T') (I := I) (M := M) (fu := fu') (U := dropU (m + p) U) (C := C) ⟨hdone', h.flat, h.ne, h.bar, h.le, ?_, h.keep, h.seg, by rw [hvl]; exact h.vlen, fun q x hx hMq => ?_, hG1.put _ hsv, ?_, fun q x => ?_, fun x hx => h.inU x (dropU_mem.1 hx).1, ?_, hinv.1, h.fin, hinv.2⟩)
      · rw [← more sv.v _ T T' hvl hvp hvq (by simp [T']) (fun q hq _ => by simp [T', hq]) fun q x hx h1 t hxd ht => depF q (hlen hx) (later q x hx h1 t hxd ht)]
        exact h.agree.put hn sv.v (opOk_dst hok)
      · have hne : q ≠ p := fun e => by subst e; rw [hMp] at hMq; cases hMq
        obtain ⟨v, hv, hst⟩ := h.facts q x hx hMq
        refine ⟨v, (hvq q hne).trans hv, ?_⟩
        have e : ET s (vs.set p sv.v) (fun q' => decide (q' < q) && !M.testBit (m + q')) ρ = ET s vs (fun q' => decide (q' < q) && !M.testBit (m + q')) ρ := by
          funext t
          refine ET_congr s _ _ _ _ ρ ρ t hvl (fun q' x' _ _ => ⟨rfl, fun ht => ?_⟩) rfl
          refine hvq q' fun e => ?_
          subst e; rw [hMp] at ht; simp at ht
        rw [e]; exact hst
      · rw [Env.val_put, hv1, henv]
        refine more sv.v _ _ _ hvl hvp hvq (by simp [T']) (fun q hq hql => ?_) fun q x hx h1 t hxd ht => ?_
        · simp [T', hq]
        · rw [rdl q x hx h1 t hxd ht, depF q (hlen hx) (later q x hx h1 t hxd ht)]; rfl
      · rw [dropU_mem, h.ahead q x]
        by_cases e : q = p
        · subst e; simp [T']
        · simp [T', e]
      · have h1 := (dropU_len (p := m + p) (U := U)).2 ⟨_, hmem, rfl⟩
        have h2 := h.fuel
        omega
    unfold WOps at hw
    cases hg : o.guard with
    | none =>
      rw [hg] at hw
      have hwt : Region.wanted o (yielded ops a.tmps) = true := by simp [Region.wanted, hg]
      rw [if_pos hwt]
      exact opV_sound h.good (fun x hx => by rw [ev_val]; exact hev x hx) (fun sv w' hsv hv => next ρc sv _ w' h.good rfl hsv rfl hv) hw
    | some jb =>
      obtain ⟨j, b⟩ := jb
      rw [hg] at hw
      dsimp only at hw
      cases hgd : dstAt ops.toList j with
      | none => rw [hgd] at hw; exact hw.elim
      | some g =>
        rw [hgd] at hw
        dsimp only at hw
        have hy := yielded_eq h.agree hall hgd
        rw [same g (by unfold namesOf; rw [hg]; simp only [hgd]; simp)] at hy
        have hwd : Region.wanted o (yielded ops a.tmps) = (yielded ops a.tmps j == some b) := by simp [Region.wanted, hg]
        rcases GrdW_cases (h.good g) hw with ⟨hx, hw⟩ | ⟨hx, hw⟩ | ⟨hx, hw⟩
        · have hv1 : (ρc.upd g (sb b)).val = ρc.val := Env.val_know (by rw [sb_v]; exact hx)
          have hwt : Region.wanted o (yielded ops a.tmps) = true := by rw [hwd, hy, show ρc.val g = _ from hx]; simp
          rw [if_pos hwt]
          exact opV_sound (h.good.upd g (good_sb b)) (fun x hx => by rw [ev_val, hv1]; exact hev x hx) (fun sv w' hsv hv => next _ sv _ w' (h.good.upd g (good_sb b)) hv1 hsv rfl hv) hw
        · have hv1 : (ρc.upd g (sb (!b))).val = ρc.val := Env.val_know (by rw [sb_v]; exact hx)
          have hwt : ¬ Region.wanted o (yielded ops a.tmps) = true := by rw [hwd, hy, show ρc.val g = _ from hx]; cases b <;> simp
          rw [if_neg hwt]
          exact ⟨fun f _ => FR_fn ro f, next _ su _ w (h.good.upd g (good_sb _)) hv1 good_su rfl hw⟩
        · have hwt : ¬ Region.wanted o (yielded ops a.tmps) = true := by
            rw [hwd, hy]
            cases hv : ρc.val g with
            | bool c => exact absurd hv (hx c)
            | _ => simp
          rw [if_neg hwt]
          exact ⟨fun f _ => FR_fn ro f, next ρc su _ w h.good rfl good_su rfl hw⟩

theorem draw_run {Av : List Nat} (hn : n ≤ MK) (hall : allB (opOk n) ops.toList = true) (hd : drawOk ops.toList = true) {ρ0 : VEnv} {K : Env → WP}
    (hK : ∀ a' ρ' w', Agree n a' ρ'.val → Gd ρ' → (∀ i, i ∉ dsts ops.toList → ρ'.val i = ρ0 i) → K ρ' w' → Q .normal a' w') :
    ∀ (fuel t : Nat) (L : Array Bool) (a : Act) (w : World), L.size = ops.size → Closed ops L → left ops L = fuel → AnyState Av P n ops ρ0 K L a w → wpOpsIn (FR ro) 0 P ops Q (Region.linearise.go .any ops fuel t L []) a w := by
  intro fuel
  induction fuel with
  | zero =>
    intro t L a w hs hc hl h
    have hz := left_zero hl
    have fin : ∀ m sg ρ, At0 Av P n ops ρ0 K L a w m sg ρ → wpOpsIn (FR ro) 0 P ops Q (Region.linearise.go .any ops 0 t L []) a w := by
      intro m sg ρ h
      have hm : ops.size ≤ m := by
        rcases Nat.lt_or_ge m ops.size with h1 | h1
        · have := (h.done m).1 (hz m h1); omega
        · exact h1
      cases sg with
      | nil => exact hK a ρ w h.agree h.good h.keep h.walk
      | cons s r =>
        have h1 := congrArg List.length h.flat
        simp only [List.flatten_cons, List.length_append, List.length_drop, Array.length_toList] at h1
        have h2 := h.ne s (by simp)
        have : s.length ≠ 0 := fun e => h2 (List.length_eq_zero_iff.1 e)
        omega
    rcases h with ⟨m, sg, ρ, h⟩ | ⟨m, s, sg, ρ, ρc, vs, T, I, M, fu, U, C, h, q, hq, hqT⟩
    · exact fin m sg ρ h
    · have := (h.done (m + q)).1 (hz (m + q) (by have := h.le; omega))
      rcases this with h1 | ⟨_, _, h1⟩
      · omega
      · rw [show m + q - m = q from by omega, hqT] at h1; cases h1
  | succ fuel ih =>
    intro t L a w hs hc hl h
    have hne := ready_ne hd hs (by omega : left ops L ≠ 0)
    simp only [Region.linearise.go]
    change wpOpsIn (FR ro) 0 P ops Q (match (Region.ready .any ops L)[t % (Region.ready .any ops L).length]? with
      | some i => Region.linearise.go .any ops fuel (t / (Region.ready .any ops L).length) (L.setIfInBounds i true) [i]
      | none => [].reverse) a w
    have hlt : t % (Region.ready .any ops L).length < (Region.ready .any ops L).length := Nat.mod_lt _ (List.length_pos_iff.2 hne)
    rw [List.getElem?_eq_getElem hlt]
    dsimp only
    generalize hi : (Region.ready .any ops L)[t % (Region.ready .any ops L).length] = i
    have him : i ∈ Region.ready .any ops L := hi ▸ List.getElem_mem hlt
    obtain ⟨hlt', hun, hr⟩ := ready_iff him hs
    rw [linearise_go_acc]
    simp only [List.reverse_singleton, List.singleton_append]
    have cont : ∀ a' w', AnyState Av P n ops ρ0 K (L.setIfInBounds i true) a' w' → wpOpsIn (FR ro) 0 P ops Q (Region.linearise.go .any ops fuel (t / (Region.ready .any ops L).length) (L.setIfInBounds i true) []) a' w' := fun a' w' h' =>
      ih _ _ a' w' (by simp [hs]) (hc.set hs him) (by have := left_set hs hlt' hun; omega) h'
    rcases h with ⟨m, sg, ρ, h⟩ | ⟨m, s, sg, ρ, ρc, vs, T, I, M, fu, U, C, h, hT⟩
    · have hmi : m ≤ i := by
        rcases Nat.lt_or_ge i m with h1 | h1
        · have := (h.done i).2 h1; rw [hun] at this; cases this
        · exact h1
      match sg, h with
      | [], h =>
        have h1 := congrArg List.length h.flat
        simp only [List.flatten_nil, List.length_nil, List.length_drop, Array.length_toList] at h1
        omega
      | [] :: r, h => exact absurd rfl (h.ne [] (by simp))
      | [o] :: r, h =>
        have him' : i = m := by
          rcases Nat.lt_or_ge m i with h1 | h1
          · have hdp := h.bar 1 (by simp) m i (by simp) (by simp; omega) hlt'
            have := (h.done m).1 (dep_done hc hr m hdp)
            omega
          · omega
        subst him'
        have hflat : [o] ++ r.flatten = ops.toList.drop i := by rw [← h.flat]; rfl
        have ho : ops[i]? = some o := by
          have := drop_get (p := 0) (o := o) hflat rfl
          simpa using this
        have hw : WOps P ops.toList [o] ρ (fun ρ' => WDr P ops.toList (bef ops.toList []) Av r (i + 1) ρ' K) w := h.walk
        refine wops_sound hn hall [i] [o] (fun x hx => mem_of_drop hflat x hx) (by simp [ho]) a ρ w _ h.agree h.good hw _ fun a' ρ' w' hA hG hk hw' => cont a' w' (.inl ⟨i + 1, r, ρ', fun j => ?_, ?_, fun x hx => h.ne x (by simp [hx]), fun k hk' x y hx hy hys => ?_, by omega, hA, hG, fun x hx => ?_, hw'⟩)
        · rw [lst_set (by omega)]
          simp only [Bool.or_eq_true, decide_eq_true_eq, h.done]
          omega
        · rw [← List.drop_drop, ← hflat]; rfl
        · refine h.bar (k + 1) (by simp; omega) x y ?_ ?_ hys <;> simp only [List.take_succ_cons, List.flatten_cons, List.length_append, List.length_cons, List.length_nil] <;> omega
        · rw [hk x (dsts_sub (mem_of_drop hflat) hx)]; exact h.keep x hx
      | (o1 :: o2 :: s) :: r, h =>
        obtain ⟨ρc, vs, I, U, C, h1⟩ := h.enter h.walk
        exact h1.step hn hall hd ⟨0, by simp, rfl⟩ hs hc him cont
    · exact h.step hn hall hd hT hs hc him cont

/-! ### The segments that the text shows -/
theorem segs_flat (B : List Nat) : ∀ (l : List Oper) (m : Nat) (cur : List Oper), (segs B l m cur).flatten = cur ++ l
  | [], _, [] => rfl
  | [], _, x :: r => by simp [segs]
  | o :: l, m, cur => by
    rw [segs]
    cases barrier B (m + 1) l.length with
    | true => simp [segs_flat B l (m + 1) []]
    | false => simp [segs_flat B l (m + 1) (cur ++ [o])]
theorem segs_ne (B : List Nat) : ∀ (l : List Oper) (m : Nat) (cur : List Oper), ∀ s ∈ segs B l m cur, s ≠ []
  | [], _, [], s, h => by simp [segs] at h
  | [], _, x :: r, s, h => by simp [segs] at h; simp [h]
  | o :: l, m, cur, s, h => by
    rw [segs] at h
    cases hb : barrier B (m + 1) l.length with
    | true =>
      rw [hb] at h
      simp only [cond_true, List.mem_cons] at h
      rcases h with rfl | h
      · simp
      · exact segs_ne B l (m + 1) [] s h
    | false => rw [hb] at h; exact segs_ne B l (m + 1) _ s h
theorem segs_bar (B : List Nat) (N : Nat) : ∀ (l : List Oper) (m : Nat) (cur : List Oper), m + l.length = N → (cur = [] → ∀ i j, i < m → m ≤ j → j < N → dep B i j = true) →
    ∀ k, k ≤ (segs B l m cur).length → (k = 0 → cur = []) → ∀ i j, i < m - cur.length + (((segs B l m cur).take k).flatten).length → m - cur.length + (((segs B l m cur).take k).flatten).length ≤ j → cur.length ≤ m → j < N → dep B i j = true
  | [], m, [], hN, hb, k, hk, _, i, j, hi, hj, _, hjN => by simp [segs] at hi hj; simp at hN; omega
  | [], m, x :: r, hN, hb, k, hk, h0, i, j, hi, hj, hc, hjN => by
    cases k with
    | zero => exact absurd (h0 rfl) (by simp)
    | succ k =>
      have : ((segs B [] m (x :: r)).take (k + 1)).flatten = x :: r := by simp [segs]
      rw [this] at hj
      simp at hN
      omega
  | o :: l, m, cur, hN, hb, k, hk, h0, i, j, hi, hj, hc, hjN => by
    simp only [List.length_cons] at hN
    rw [segs] at hi hj hk
    cases hbr : barrier B (m + 1) l.length with
    | true =>
      rw [hbr] at hi hj hk
      simp only [cond_true] at hi hj hk
      cases k with
      | zero =>
        have := h0 rfl
        subst this
        simp at hi hj
        exact hb rfl i j hi hj hjN
      | succ k =>
        simp only [List.take_succ_cons, List.flatten_cons, List.length_append, List.length_cons, List.length_nil] at hi hj
        refine segs_bar B N l (m + 1) [] (by omega) (fun _ i j hi hj hjN => barrier_iff hbr hi hj (by omega)) k (by simpa using hk) (fun _ => rfl) i j ?_ ?_ (by simp) hjN
        · simp only [List.length_nil]; omega
        · simp only [List.length_nil]; omega
    | false =>
      rw [hbr] at hi hj hk
      simp only [cond_false] at hi hj hk
      cases k with
      | zero =>
        have := h0 rfl
        subst this
        simp at hi hj
        exact hb rfl i j hi hj hjN
      | succ k =>
        refine segs_bar B N l (m + 1) (cur ++ [o]) (by omega) (by simp) (k + 1) hk (by simp) i j ?_ ?_ (by simp; omega) hjN
        · simp only [List.length_append, List.length_cons, List.length_nil]; omega
        · simp only [List.length_append, List.length_cons, List.length_nil]; omega

/-- A drawn region, out of the walk in the text's order. -/
theorem draw_sound {Av : List Nat} (hn : n ≤ MK) (hm : P.follows .mixedOrders = true) (hall : allB (opOk n) ops.toList = true) (hd : drawOk ops.toList = true) {ρ : Env} {K : Env → WP} {a : Act} {w : World} {id : Nat} (hA : Agree n a ρ.val) (hG : Gd ρ)
    (hK : ∀ a' ρ' w', Agree n a' ρ'.val → Gd ρ' → (∀ i, i ∉ dsts ops.toList → ρ'.val i = ρ.val i) → K ρ' w' → Q .normal a' w')
    (h : WDr P ops.toList (bef ops.toList []) Av (segs (bef ops.toList []) ops.toList 0 []) 0 ρ K { w with drawn := w.drawn + 1 }) : (Code.region id ops true).wpIn (FR ro) 0 P Q a w := by
  refine wpIn_region_draw fun t => ?_
  simp only [Region.schedule, hm, Bool.true_or, if_true]
  have hz : ∀ i, lst (Array.replicate ops.size false) i = false := fun i => by
    unfold lst
    rw [Array.getD_eq_getD_getElem?, Array.getElem?_replicate]
    split <;> rfl
  have hleft : left ops (Array.replicate ops.size false) = ops.size := by
    unfold left
    rw [List.countP_eq_length.2 fun i _ => by rw [hz]; rfl]
    simp
  exact draw_run hn hall hd hK ops.size t _ a _ (by simp) (fun j hj => by rw [hz] at hj; cases hj) hleft
    (.inl ⟨0, _, ρ, fun i => by rw [hz]; simp, by rw [segs_flat]; simp, segs_ne _ _ _ _,
      fun k hk i j hi hj hjs => segs_bar _ ops.size ops.toList 0 [] (by simp) (fun _ i j hi => by omega) k hk (fun _ => rfl) i j (by simpa using hi) (by simpa using hj) (by simp) hjs, by omega, hA, hG, fun _ _ => rfl, h⟩)
end
end Go.Jac
