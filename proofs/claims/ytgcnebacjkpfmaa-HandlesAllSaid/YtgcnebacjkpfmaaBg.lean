/- Drawn regions: the walk serves every order. -/
import Derived.Test.YtgcnebacjkpfmaaBf
namespace Go.Jac
open Go

section
variable {P : Program} {n : Nat} {ro : Option Nat} {ops : Array Oper} {Q : Exit → Act → World → Prop}

def AnyState (P : Program) (n : Nat) (ops : Array Oper) (ρ0 : VEnv) (K : Env → WP) (L : Array Bool) (a : Act) (w : World) : Prop :=
  (∃ m sg ρ, At0 P n ops ρ0 K L a w m sg ρ) ∨ (∃ m s sg ρ ρe vs T I, At1 P n ops ρ0 K L a w m s sg ρ ρe vs T I ∧ ∃ q, q < s.length ∧ T q = false)

theorem At0.enter {ρ0 : VEnv} {K : Env → WP} {L : Array Bool} {a : Act} {w : World} {m : Nat} {s : List Oper} {sg : List (List Oper)} {ρ : Env}
    (h : At0 P n ops ρ0 K L a w m (s :: sg) ρ) (hw : ∃ I : MI, I (fun _ => false) w ∧ WQ P ops.toList I s 0 ρ fun ρ' => ∀ M w', allM (npl s 0) M → I M w' → WDr P ops.toList sg ρ' K w') :
    ∃ ρe vs I, At1 P n ops ρ0 K L a w m s sg ρ.val ρe vs (fun _ => false) I := by
  obtain ⟨I, hI, hq⟩ := hw
  obtain ⟨vs, ρe, hGe, hf, hc⟩ := wq_facts s 0 ρ _ h.good hq
  have hflat : s ++ sg.flatten = ops.toList.drop m := by rw [← h.flat]; rfl
  have hlen : m + s.length ≤ ops.size := by
    have h1 := congrArg List.length hflat
    simp only [List.length_append, List.length_drop, Array.length_toList] at h1
    have := h.le
    omega
  refine ⟨ρe, vs, I, fun i => ?_, hflat, fun x hx => h.ne x (by simp [hx]), fun k hk i j hi hj hjs => ?_, hlen, ?_, h.keep, hf, hGe, by simpa using hI, hc⟩
  · rw [h.done]; simp
  · refine h.bar (k + 1) (by simp; omega) i j ?_ ?_ hjs
    · simp only [List.take_succ_cons, List.flatten_cons, List.length_append]; omega
    · simp only [List.take_succ_cons, List.flatten_cons, List.length_append]; omega
  · have : ET s vs (fun _ => false) ρ.val = ρ.val := by funext t; exact ET_none _ _ _ _ _ fun _ _ _ _ => rfl
    rw [this]; exact h.agree

theorem At1.any {ρ0 : VEnv} {K : Env → WP} {L : Array Bool} {a : Act} {w : World} {m : Nat} {s : List Oper} {sg : List (List Oper)} {ρ : VEnv} {ρe : Env} {vs : List Value} {T : Nat → Bool} {I : MI}
    (h : At1 P n ops ρ0 K L a w m s sg ρ ρe vs T I) : AnyState P n ops ρ0 K L a w := by
  by_cases hT : ∃ q, q < s.length ∧ T q = false
  · exact .inr ⟨m, s, sg, ρ, ρe, vs, T, I, h, hT⟩
  · exact .inl ⟨_, _, _, h.over fun q hq => by
      cases hq' : T q with
      | true => rfl
      | false => exact absurd ⟨q, hq, hq'⟩ hT⟩

/-- One operation of a segment. -/
theorem At1.step (hn : n ≤ MK) (hall : allB (opOk n) ops.toList = true) (hd : drawOk ops.toList = true) {ρ0 : VEnv} {K : Env → WP} {L : Array Bool} {a : Act} {w : World} {m : Nat} {s : List Oper} {sg : List (List Oper)} {ρ : VEnv} {ρe : Env} {vs : List Value} {T : Nat → Bool} {I : MI}
    (h : At1 P n ops ρ0 K L a w m s sg ρ ρe vs T I) (hT : ∃ q, q < s.length ∧ T q = false) (hs : L.size = ops.size) (hc : Closed ops L) {i : Nat} (hi : i ∈ Region.ready .any ops L) {l : List Nat}
    (hk : ∀ a' w', AnyState P n ops ρ0 K (L.setIfInBounds i true) a' w' → wpOpsIn (FR ro) 0 P ops Q l a' w') : wpOpsIn (FR ro) 0 P ops Q (i :: l) a w := by
  obtain ⟨hlt, hun, hr⟩ := ready_iff hi hs
  have hdone := dep_done hc hr
  have hm : m ≤ i := by
    rcases Nat.lt_or_ge i m with h1 | h1
    · have := (h.done i).2 (.inl h1); rw [hun] at this; cases this
    · exact h1
  have hik : i < m + s.length := by
    rcases Nat.lt_or_ge i (m + s.length) with h1 | h1
    · exact h1
    · obtain ⟨q, hq, hqT⟩ := hT
      have := hdone (m + q) (h.bar 0 (Nat.zero_le _) (m + q) i (by simp; omega) (by simp; omega) hlt)
      rcases (h.done (m + q)).1 this with h2 | ⟨_, _, h2⟩
      · omega
      · rw [show m + q - m = q from by omega, hqT] at h2; cases h2
  obtain ⟨p, rfl⟩ : ∃ p, i = m + p := ⟨i - m, by omega⟩
  have hp : p < s.length := by omega
  have hTp : T p = false := by
    cases hq : T p with
    | false => rfl
    | true =>
      have := (h.done (m + p)).2 (.inr ⟨by omega, by omega, by rw [show m + p - m = p from by omega]; exact hq⟩)
      rw [hun] at this; cases this
  obtain ⟨o, ho⟩ : ∃ o, s[p]? = some o := ⟨_, List.getElem?_eq_getElem hp⟩
  have hgo : ∀ q x, s[q]? = some x → ops.toList[m + q]? = some x := fun q x hx => by rw [Array.getElem?_toList]; exact drop_get h.flat hx
  obtain ⟨v, hv, hst⟩ := QF_at s vs ρ ρe.val 0 h.facts p o ho
  have later : ∀ q x, s[q]? = some x → p < q → ∀ t, x.dst = some t → t ∈ namesOf ops.toList o → T q = false := by
    intro q x hx hpq t ht hm'
    rcases draw_pair hd (hgo p o ho) (hgo q x hx) (by omega) with h1 | ⟨_, h1⟩
    · cases hq : T q with
      | false => rfl
      | true =>
        have hql : q < s.length := (List.getElem?_eq_some_iff.1 hx).1
        have h2 : lst L (m + q) = true := (h.done (m + q)).2 (.inr ⟨by omega, by omega, by rw [show m + q - m = q from by omega]; exact hq⟩)
        have := hc _ h2 _ h1
        rw [hun] at this; cases this
    · exact absurd hm' (h1 t ht)
  have earlier : ∀ q x, s[q]? = some x → q < p → ∀ t, x.dst = some t → t ∈ namesOf ops.toList o → T q = true := by
    intro q x hx hpq t ht hm'
    rcases draw_pair hd (hgo q x hx) (hgo p o ho) (by omega) with h1 | ⟨h1, _⟩
    · have := hdone _ h1
      rcases (h.done (m + q)).1 this with h2 | ⟨_, _, h2⟩
      · omega
      · rwa [show m + q - m = q from by omega] at h2
    · exact absurd hm' (h1 t ht)
  have same : ∀ t, t ∈ namesOf ops.toList o → ET s vs T ρ t = ET s vs (fun q => decide (q < p)) ρ t := fun t ht => by
    refine ET_congr s vs _ _ ρ ρ t (fun q x hx hxd => ?_) rfl
    rcases Nat.lt_trichotomy q p with h1 | h1 | h1
    · rw [earlier q x hx h1 t hxd ht]; simp [h1]
    · subst h1; rw [hTp]; simp
    · rw [later q x hx h1 t hxd ht]; simp; omega
  have hom : o ∈ ops.toList := mem_of_drop h.flat o (List.mem_of_getElem? ho)
  have hok : opOk n o = true := allB_iff.1 hall o hom
  have hev : ∀ x ∈ o.op.operands, a.eval x = evV (ET s vs (fun q => decide (q < p)) ρ) x := fun x hx => by
    rw [h.agree.ev_eq (opOk_reads hok x hx)]
    cases x with
    | tmp t =>
      refine same t (List.mem_append_right _ (List.mem_append_left _ ?_))
      exact List.mem_flatMap.2 ⟨.tmp t, by simpa using hx, by simp [rdOf]⟩
    | _ => rfl
  have hop : ops[m + p]? = some o := drop_get h.flat ho
  let T' : Nat → Bool := fun q => decide (q = p) || T q
  have hET : (ET s vs T ρ).put o.dst v = ET s vs T' ρ := by
    funext t
    by_cases ht : o.dst = some t
    · rw [ht]
      simp only [VEnv.put, VEnv.upd_same]
      refine (ET_at s vs T' ρ p o v t ho hv ht (by simp [T']) fun q x hx hxd hlt => ?_).symm
      have := later q x hx hlt t hxd (List.mem_append_left _ (by rw [ht]; simp))
      simp [T', this]; omega
    · rw [VEnv.put_keep fun x hx e => ht (by rw [hx, e])]
      refine ET_congr s vs _ _ ρ ρ t (fun q x hx hxd => ?_) rfl
      by_cases e : q = p
      · subst e; rw [ho] at hx; cases hx; exact absurd hxd ht
      · simp [T', e]
  rw [Nat.zero_add] at hst
  have hnp : np s p = !pureOp o := by simp [np, ho]
  have hM : (cond (pureOp o) (fun q => T q && np s q) (setM (fun q => T q && np s q) p)) = fun q => T' q && np s q := by
    cases hpu : pureOp o with
    | true =>
      funext q
      simp only [cond_true, T']
      by_cases e : q = p
      · subst e; rw [hnp, hpu]; simp
      · simp [e]
    | false =>
      funext q
      simp only [cond_false, setM, T']
      by_cases e : q = p
      · subst e; rw [hnp, hpu]; simp
      · simp [e]
  have hMp : pureOp o = false → (fun q => T q && np s q) p = false := fun _ => by simp [hTp]
  have next : ∀ a' w', a' = a.put o.dst v → I (cond (pureOp o) (fun q => T q && np s q) (setM (fun q => T q && np s q) p)) w' → wpOpsIn (FR ro) 0 P ops Q l a' w' := by
    rintro a' w' rfl hI
    rw [hM] at hI
    refine hk _ _ (At1.any (m := m) (s := s) (sg := sg) (ρ := ρ) (ρe := ρe) (vs := vs) (T := T') (I := I) ⟨fun j => ?_, h.flat, h.ne, h.bar, h.le, ?_, h.keep, h.facts, h.good, hI, h.walk⟩)
    · rw [lst_set (by omega)]
      simp only [Bool.or_eq_true, decide_eq_true_eq, h.done, T']
      constructor
      · rintro (rfl | h1 | ⟨h1, h2, h3⟩)
        · exact .inr ⟨by omega, by omega, .inl (by omega)⟩
        · exact .inl h1
        · exact .inr ⟨h1, h2, .inr h3⟩
      · rintro (h1 | ⟨h1, h2, h3 | h3⟩)
        · exact .inr (.inl h1)
        · exact .inl (by omega)
        · exact .inr (.inr ⟨h1, h2, h3⟩)
    · rw [← hET]; exact h.agree.put hn v (opOk_dst hok)
  simp only [wpOpsIn, hop]
  unfold QStep at hst
  cases hg : o.guard with
  | none =>
    rw [hg] at hst
    have hw : Region.wanted o (yielded ops a.tmps) = true := by simp [Region.wanted, hg]
    rw [if_pos hw]
    obtain ⟨ρ1, hv1, hG1, hq⟩ := hst
    exact opV_sound hG1 (fun x hx => by rw [ev_val, hv1]; exact hev x hx) (fun s' w' _ ⟨e, hI⟩ => next _ w' (by rw [e]) hI) (hq _ w hMp h.inv)
  | some jb =>
    obtain ⟨j, b⟩ := jb
    rw [hg] at hst
    obtain ⟨g, hgd, hst⟩ := hst
    have hy := yielded_eq h.agree hall hgd
    rw [same g (by unfold namesOf; rw [hg]; simp only [hgd]; simp)] at hy
    have hwd : Region.wanted o (yielded ops a.tmps) = (yielded ops a.tmps j == some b) := by simp [Region.wanted, hg]
    rcases hst with ⟨hx, hst⟩ | ⟨hx, rfl, hsk⟩
    · have hw : Region.wanted o (yielded ops a.tmps) = true := by rw [hwd, hy, hx]; simp
      rw [if_pos hw]
      obtain ⟨ρ1, hv1, hG1, hq⟩ := hst
      exact opV_sound hG1 (fun x hx => by rw [ev_val, hv1]; exact hev x hx) (fun s' w' _ ⟨e, hI⟩ => next _ w' (by rw [e]) hI) (hq _ w hMp h.inv)
    · have hw : ¬ Region.wanted o (yielded ops a.tmps) = true := by
        rw [hwd, hy]
        cases hv' : ET s vs (fun q => decide (q < p)) ρ g with
        | bool c => simp; intro e; subst e; exact hx hv'
        | _ => simp
      rw [if_neg hw]
      exact ⟨fun f _ => FR_fn ro f, next _ w rfl (hsk _ w hMp h.inv)⟩

theorem draw_run (hn : n ≤ MK) (hall : allB (opOk n) ops.toList = true) (hd : drawOk ops.toList = true) {ρ0 : VEnv} {K : Env → WP}
    (hK : ∀ a' ρ' w', Agree n a' ρ'.val → Gd ρ' → (∀ i, i ∉ dsts ops.toList → ρ'.val i = ρ0 i) → K ρ' w' → Q .normal a' w') :
    ∀ (fuel t : Nat) (L : Array Bool) (a : Act) (w : World), L.size = ops.size → Closed ops L → left ops L = fuel → AnyState P n ops ρ0 K L a w → wpOpsIn (FR ro) 0 P ops Q (Region.linearise.go .any ops fuel t L []) a w := by
  intro fuel
  induction fuel with
  | zero =>
    intro t L a w hs hc hl h
    have hz := left_zero hl
    have fin : ∀ m sg ρ, At0 P n ops ρ0 K L a w m sg ρ → wpOpsIn (FR ro) 0 P ops Q (Region.linearise.go .any ops 0 t L []) a w := by
      intro m sg ρ h
      have hm : ops.size ≤ m := by
        rcases Nat.lt_or_ge m ops.size with h1 | h1
        · have := (h.done m).1 (hz m h1); omega
        · exact h1
      cases sg with
      | nil => exact hK a ρ w h.agree h.good h.keep h.walk
      | cons s r =>
        have h1 := congrArg List.length h.flat
        simp only [List.flatten_cons, List.length_append, List.length_drop, Array.length_toList] at h1
        have h2 := h.ne s (by simp)
        have : s.length ≠ 0 := fun e => h2 (List.length_eq_zero_iff.1 e)
        omega
    rcases h with ⟨m, sg, ρ, h⟩ | ⟨m, s, sg, ρ, ρe, vs, T, I, h, q, hq, hqT⟩
    · exact fin m sg ρ h
    · have := (h.done (m + q)).1 (hz (m + q) (by have := h.le; omega))
      rcases this with h1 | ⟨_, _, h1⟩
      · omega
      · rw [show m + q - m = q from by omega, hqT] at h1; cases h1
  | succ fuel ih =>
    intro t L a w hs hc hl h
    have hne := ready_ne hd hs (by omega : left ops L ≠ 0)
    simp only [Region.linearise.go]
    change wpOpsIn (FR ro) 0 P ops Q (match (Region.ready .any ops L)[t % (Region.ready .any ops L).length]? with
      | some i => Region.linearise.go .any ops fuel (t / (Region.ready .any ops L).length) (L.setIfInBounds i true) [i]
      | none => [].reverse) a w
    have hlt : t % (Region.ready .any ops L).length < (Region.ready .any ops L).length := Nat.mod_lt _ (List.length_pos_iff.2 hne)
    rw [List.getElem?_eq_getElem hlt]
    dsimp only
    generalize hi : (Region.ready .any ops L)[t % (Region.ready .any ops L).length] = i
    have him : i ∈ Region.ready .any ops L := hi ▸ List.getElem_mem hlt
    obtain ⟨hlt', hun, hr⟩ := ready_iff him hs
    rw [linearise_go_acc]
    simp only [List.reverse_singleton, List.singleton_append]
    have cont : ∀ a' w', AnyState P n ops ρ0 K (L.setIfInBounds i true) a' w' → wpOpsIn (FR ro) 0 P ops Q (Region.linearise.go .any ops fuel (t / (Region.ready .any ops L).length) (L.setIfInBounds i true) []) a' w' := fun a' w' h' =>
      ih _ _ a' w' (by simp [hs]) (hc.set hs him) (by have := left_set hs hlt' hun; omega) h'
    rcases h with ⟨m, sg, ρ, h⟩ | ⟨m, s, sg, ρ, ρe, vs, T, I, h, hT⟩
    · have hmi : m ≤ i := by
        rcases Nat.lt_or_ge i m with h1 | h1
        · have := (h.done i).2 h1; rw [hun] at this; cases this
        · exact h1
      match sg, h with
      | [], h =>
        have h1 := congrArg List.length h.flat
        simp only [List.flatten_nil, List.length_nil, List.length_drop, Array.length_toList] at h1
        omega
      | [] :: r, h => exact absurd rfl (h.ne [] (by simp))
      | [o] :: r, h =>
        have him' : i = m := by
          rcases Nat.lt_or_ge m i with h1 | h1
          · have hdp := h.bar 1 (by simp) m i (by simp) (by simp; omega) hlt'
            have := (h.done m).1 (dep_done hc hr m hdp)
            omega
          · omega
        subst him'
        have hflat : [o] ++ r.flatten = ops.toList.drop i := by rw [← h.flat]; rfl
        have ho : ops[i]? = some o := by
          have := drop_get (p := 0) (o := o) hflat rfl
          simpa using this
        have hw : WOps P ops.toList [o] ρ (fun ρ' => WDr P ops.toList r ρ' K) w := h.walk
        refine wops_sound hn hall [i] [o] (fun x hx => mem_of_drop hflat x hx) (by simp [ho]) a ρ w _ h.agree h.good hw _ fun a' ρ' w' hA hG hk hw' => cont a' w' (.inl ⟨i + 1, r, ρ', fun j => ?_, ?_, fun x hx => h.ne x (by simp [hx]), fun k hk' x y hx hy hys => ?_, by omega, hA, hG, fun x hx => ?_, hw'⟩)
        · rw [lst_set (by omega)]
          simp only [Bool.or_eq_true, decide_eq_true_eq, h.done]
          omega
        · rw [← List.drop_drop, ← hflat]; rfl
        · refine h.bar (k + 1) (by simp; omega) x y ?_ ?_ hys <;> simp only [List.take_succ_cons, List.flatten_cons, List.length_append, List.length_cons, List.length_nil] <;> omega
        · rw [hk x (dsts_sub (mem_of_drop hflat) hx)]; exact h.keep x hx
      | (o1 :: o2 :: s) :: r, h =>
        obtain ⟨ρe, vs, I, h1⟩ := h.enter h.walk
        exact h1.step hn hall hd ⟨0, by simp, rfl⟩ hs hc him cont
    · exact h.step hn hall hd hT hs hc him cont

/-! ### The segments that the text shows -/
theorem segs_flat (B : List Nat) : ∀ (l : List Oper) (m : Nat) (cur : List Oper), (segs B l m cur).flatten = cur ++ l
  | [], _, [] => rfl
  | [], _, x :: r => by simp [segs]
  | o :: l, m, cur => by
    rw [segs]
    cases barrier B (m + 1) l.length with
    | true => simp [segs_flat B l (m + 1) []]
    | false => simp [segs_flat B l (m + 1) (cur ++ [o])]
theorem segs_ne (B : List Nat) : ∀ (l : List Oper) (m : Nat) (cur : List Oper), ∀ s ∈ segs B l m cur, s ≠ []
  | [], _, [], s, h => by simp [segs] at h
  | [], _, x :: r, s, h => by simp [segs] at h; simp [h]
  | o :: l, m, cur, s, h => by
    rw [segs] at h
    cases hb : barrier B (m + 1) l.length with
    | true =>
      rw [hb] at h
      simp only [cond_true, List.mem_cons] at h
      rcases h with rfl | h
      · simp
      · exact segs_ne B l (m + 1) [] s h
    | false => rw [hb] at h; exact segs_ne B l (m + 1) _ s h
theorem segs_bar (B : List Nat) (N : Nat) : ∀ (l : List Oper) (m : Nat) (cur : List Oper), m + l.length = N → (cur = [] → ∀ i j, i < m → m ≤ j → j < N → dep B i j = true) →
    ∀ k, k ≤ (segs B l m cur).length → (k = 0 → cur = []) → ∀ i j, i < m - cur.length + (((segs B l m cur).take k).flatten).length → m - cur.length + (((segs B l m cur).take k).flatten).length ≤ j → cur.length ≤ m → j < N → dep B i j = true
  | [], m, [], hN, hb, k, hk, _, i, j, hi, hj, _, hjN => by simp [segs] at hi hj; simp at hN; omega
  | [], m, x :: r, hN, hb, k, hk, h0, i, j, hi, hj, hc, hjN => by
    cases k with
    | zero => exact absurd (h0 rfl) (by simp)
    | succ k =>
      have : ((segs B [] m (x :: r)).take (k + 1)).flatten = x :: r := by simp [segs]
      rw [this] at hj
      simp at hN
      omega
  | o :: l, m, cur, hN, hb, k, hk, h0, i, j, hi, hj, hc, hjN => by
    simp only [List.length_cons] at hN
    rw [segs] at hi hj hk
    cases hbr : barrier B (m + 1) l.length with
    | true =>
      rw [hbr] at hi hj hk
      simp only [cond_true] at hi hj hk
      cases k with
      | zero =>
        have := h0 rfl
        subst this
        simp at hi hj
        exact hb rfl i j hi hj hjN
      | succ k =>
        simp only [List.take_succ_cons, List.flatten_cons, List.length_append, List.length_cons, List.length_nil] at hi hj
        refine segs_bar B N l (m + 1) [] (by omega) (fun _ i j hi hj hjN => barrier_iff hbr hi hj (by omega)) k (by simpa using hk) (fun _ => rfl) i j ?_ ?_ (by simp) hjN
        · simp only [List.length_nil]; omega
        · simp only [List.length_nil]; omega
    | false =>
      rw [hbr] at hi hj hk
      simp only [cond_false] at hi hj hk
      cases k with
      | zero =>
        have := h0 rfl
        subst this
        simp at hi hj
        exact hb rfl i j hi hj hjN
      | succ k =>
        refine segs_bar B N l (m + 1) (cur ++ [o]) (by omega) (by simp) (k + 1) hk (by simp) i j ?_ ?_ (by simp; omega) hjN
        · simp only [List.length_append, List.length_cons, List.length_nil]; omega
        · simp only [List.length_append, List.length_cons, List.length_nil]; omega

/-- A drawn region, out of the walk in the text's order. -/
theorem draw_sound (hn : n ≤ MK) (hm : P.follows .mixedOrders = true) (hall : allB (opOk n) ops.toList = true) (hd : drawOk ops.toList = true) {ρ : Env} {K : Env → WP} {a : Act} {w : World} {id : Nat} (hA : Agree n a ρ.val) (hG : Gd ρ)
    (hK : ∀ a' ρ' w', Agree n a' ρ'.val → Gd ρ' → (∀ i, i ∉ dsts ops.toList → ρ'.val i = ρ.val i) → K ρ' w' → Q .normal a' w')
    (h : WDr P ops.toList (segs (bef ops.toList []) ops.toList 0 []) ρ K { w with drawn := w.drawn + 1 }) : (Code.region id ops true).wpIn (FR ro) 0 P Q a w := by
  refine wpIn_region_draw fun t => ?_
  simp only [Region.schedule, hm, Bool.true_or, if_true]
  have hz : ∀ i, lst (Array.replicate ops.size false) i = false := fun i => by
    unfold lst
    rw [Array.getD_eq_getD_getElem?, Array.getElem?_replicate]
    split <;> rfl
  have hleft : left ops (Array.replicate ops.size false) = ops.size := by
    unfold left
    rw [List.countP_eq_length.2 fun i _ => by rw [hz]; rfl]
    simp
  exact draw_run hn hall hd hK ops.size t _ a _ (by simp) (fun j hj => by rw [hz] at hj; cases hj) hleft
    (.inl ⟨0, _, ρ, fun i => by rw [hz]; simp, by rw [segs_flat]; simp, segs_ne _ _ _ _,
      fun k hk i j hi hj hjs => segs_bar _ ops.size ops.toList 0 [] (by simp) (fun _ i j hi => by omega) k hk (fun _ => rfl) i j (by simpa using hi) (by simpa using hj) (by simp) hjs, by omega, hA, hG, fun _ _ => rfl, h⟩)
end
end Go.Jac
