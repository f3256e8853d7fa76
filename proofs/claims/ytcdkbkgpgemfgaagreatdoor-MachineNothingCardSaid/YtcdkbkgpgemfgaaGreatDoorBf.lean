/- Drawn regions: every order. -/
import Derived.Test.YtcdkbkgpgemfgaaGreatDoorBe
namespace Go.Jac
open Go

section
variable {P : Program} {n : Nat} {ro : Option Nat} {ops : Array Oper} {Q : Exit → Act → World → Prop}

def lst (L : Array Bool) (i : Nat) : Bool := L.getD i false
theorem lst_set {L : Array Bool} {i j : Nat} (hi : i < L.size) : lst (L.setIfInBounds i true) j = (decide (j = i) || lst L j) := by
  unfold lst
  rw [Array.getD_eq_getD_getElem?, Array.getD_eq_getD_getElem?]
  by_cases e : j = i
  · subst e
    simp [hi]
  · rw [Array.getElem?_setIfInBounds_ne (fun h => e h.symm)]; simp [e]
theorem ready_iff {L : Array Bool} {i : Nat} (h : i ∈ Region.ready .any ops L) (hs : L.size = ops.size) : i < ops.size ∧ lst L i = false ∧ ∃ o, ops[i]? = some o ∧ ∀ e ∈ o.after.toList, Region.binds .any e = true → lst L e.on = true := by
  simp only [Region.ready, List.mem_filter, List.mem_range, Bool.and_eq_true, Bool.not_eq_true'] at h
  obtain ⟨hi, h1, h2⟩ := h
  refine ⟨hi, ?_, ?_⟩
  · unfold lst
    rw [Array.getD_eq_getD_getElem?] at h1 ⊢
    rw [Array.getElem?_eq_getElem (by omega)] at h1 ⊢
    simpa using h1
  · rw [Array.getElem?_eq_getElem hi] at h2 ⊢
    refine ⟨_, rfl, fun e he hb => ?_⟩
    simp only [Option.map_some, Option.getD_some, Array.all_eq_true_iff_forall_mem, Bool.or_eq_true, Bool.not_eq_true'] at h2
    rcases h2 e (by simpa using he) with h | h
    · rw [hb] at h; cases h
    · exact h
/-- Whatever an operation hangs on has been done. -/
def Closed (ops : Array Oper) (L : Array Bool) : Prop := ∀ j, lst L j = true → ∀ q, dep (bef ops.toList []) q j = true → lst L q = true
theorem dep_done {L : Array Bool} (hc : Closed ops L) {i : Nat} (h : ∃ o, ops[i]? = some o ∧ ∀ e ∈ o.after.toList, Region.binds .any e = true → lst L e.on = true) :
    ∀ q, dep (bef ops.toList []) q i = true → lst L q = true := by
  intro q hq
  obtain ⟨o, ho, h⟩ := h
  obtain ⟨o', ho', e, he, hb, hd⟩ := dep_step hq
  have : o' = o := by
    rw [Array.getElem?_toList] at ho'
    rw [ho'] at ho; exact Option.some.inj ho
  subst this
  have h1 := h e he hb
  rcases hd with rfl | hd
  · exact h1
  · exact hc _ h1 q hd
theorem Closed.set {L : Array Bool} (hc : Closed ops L) (hs : L.size = ops.size) {i : Nat} (h : i ∈ Region.ready .any ops L) : Closed ops (L.setIfInBounds i true) := by
  obtain ⟨hi, _, hr⟩ := ready_iff h hs
  intro j hj q hq
  rw [lst_set (by omega)] at hj ⊢
  by_cases e : j = i
  · subst e
    rw [dep_done hc hr q hq]; simp
  · simp [e] at hj
    rw [hc j hj q hq]; simp

/-- Between two segments. -/
structure At0 (Av : List Nat) (P : Program) (n : Nat) (ops : Array Oper) (ρ0 : VEnv) (K : Env → WP) (L : Array Bool) (a : Act) (w : World) (m : Nat) (sg : List (List Oper)) (ρ : Env) : Prop where
  done : ∀ i, lst L i = true ↔ i < m
  flat : sg.flatten = ops.toList.drop m
  ne : ∀ s ∈ sg, s ≠ []
  bar : ∀ k, k ≤ sg.length → ∀ i j, i < m + ((sg.take k).flatten).length → m + ((sg.take k).flatten).length ≤ j → j < ops.size → dep (bef ops.toList []) i j = true
  le : m ≤ ops.size
  agree : Agree n a ρ.val
  good : Gd ρ
  keep : ∀ i, i ∉ dsts ops.toList → ρ.val i = ρ0 i
  walk : WDr P ops.toList (bef ops.toList []) Av sg m ρ K w
/-- Within a segment. -/
structure At1 (Av : List Nat) (P : Program) (n : Nat) (ops : Array Oper) (ρ0 : VEnv) (K : Env → WP) (L : Array Bool) (a : Act) (w : World) (m : Nat) (s : List Oper) (sg : List (List Oper)) (ρ : VEnv) (ρc : Env) (vs : List Value) (T : Nat → Bool) (I : WP) (M fu : Nat) (U : List (Nat × Oper)) (C : Env → WP) : Prop where
  done : ∀ i, lst L i = true ↔ (i < m ∨ (m ≤ i ∧ i < m + s.length ∧ T (i - m) = true))
  flat : s ++ sg.flatten = ops.toList.drop m
  ne : ∀ s ∈ sg, s ≠ []
  bar : ∀ k, k ≤ sg.length → ∀ i j, i < m + s.length + ((sg.take k).flatten).length → m + s.length + ((sg.take k).flatten).length ≤ j → j < ops.size → dep (bef ops.toList []) i j = true
  le : m + s.length ≤ ops.size
  agree : Agree n a (ET s vs T ρ)
  keep : ∀ i, i ∉ dsts ops.toList → ρ i = ρ0 i
  seg : segOk (bef ops.toList []) M m s.length = true
  vlen : vs.length = s.length
  facts : ∀ p o, s[p]? = some o → M.testBit (m + p) = false → ∃ v, vs[p]? = some v ∧ QStep P ops.toList I o (ET s vs (fun q => decide (q < p) && !M.testBit (m + q)) ρ) v
  good : Gd ρc
  env : ρc.val = ET s vs (fun q => !M.testBit (m + q) || T q) ρ
  ahead : ∀ q o, (m + q, o) ∈ U ↔ s[q]? = some o ∧ M.testBit (m + q) = true ∧ T q = false
  inU : ∀ x ∈ U, ∃ q, x.1 = m + q
  fuel : U.length ≤ fu
  inv : I w ∨ ∀ q o, s[q]? = some o → M.testBit (m + q) = false → noMem o = false → T q = true
  fin : ∀ ρ' w', Gd ρ' → (∀ i, i ∉ dsts s → ρ'.val i = ρ i) → C ρ' w' → ∃ ρ'' : Env, ρ''.val = ρ'.val ∧ Gd ρ'' ∧ WDr P ops.toList (bef ops.toList []) Av sg (m + s.length) ρ'' K w'
  walk : WCh P ops.toList (bef ops.toList []) M I s m fu U ρc C w

theorem mix_val {md : List Nat} {ρ1 ρ : Env} (h : ∀ i, i ∉ md → ρ1.val i = ρ.val i) : (mix md ρ1 ρ).val = ρ1.val := by
  funext i
  show (cond (hasN md i) (ρ1 i) (ρ i)).v = (ρ1 i).v
  cases hm : hasN md i with
  | true => rfl
  | false =>
    rw [cond_false]
    exact (h i fun hi => by rw [hasN_iff.2 hi] at hm; cases hm).symm
theorem mix_good {md : List Nat} {ρ1 ρ : Env} (h1 : Gd ρ1) (h : Gd ρ) : Gd (mix md ρ1 ρ) := by
  intro i
  unfold mix
  cases hasN md i with
  | true => exact h1 i
  | false => exact h i
theorem unp_self {B : Env → WP} {w : World} {E : VEnv} : ∀ (lv : List Nat) (ρ : Env), ρ.val = E → Gd ρ → unp lv (lv.map E) ρ B w → ∃ ρ', ρ'.val = E ∧ Gd ρ' ∧ B ρ' w
  | [], ρ, he, hg, h => ⟨ρ, he, hg, h⟩
  | i :: r, ρ, he, hg, h => by
    simp only [unp, List.map_cons, UN] at h
    refine unp_self r _ ?_ (hg.upd i (good_dy _)) h
    rw [Env.val_upd, he]
    exact VEnv.upd_self rfl
theorem unp_use {B : Env → WP} {w : World} {md lv : List Nat} {ρ1 ρ : Env} (h1 : Gd ρ1) (hg : Gd ρ) (hk : ∀ i, i ∉ md → ρ1.val i = ρ.val i) (h : ∀ j : Env, unp lv (vals ρ1 lv) (mix md j ρ) B w) : ∃ ρ', ρ'.val = ρ1.val ∧ Gd ρ' ∧ B ρ' w :=
  unp_self lv _ (mix_val hk) (mix_good h1 hg) (h ρ1)
theorem ET_keep : ∀ (s : List Oper) (vs : List Value) (T : Nat → Bool) (ρ : VEnv) (i : Nat), i ∉ dsts s → ET s vs T ρ i = ρ i
  | [], _, _, _, _, _ => rfl
  | _ :: _, [], _, _, _, _ => rfl
  | o :: r, v :: vs, T, ρ, i, hi => by
    rw [ET, ET_keep r vs _ _ i fun hm => hi (by simp only [dsts, List.flatMap_cons, List.mem_append]; exact .inr hm)]
    cases T 0 with
    | false => rfl
    | true =>
      refine VEnv.put_keep fun x hx e => hi ?_
      simp only [dsts, List.flatMap_cons, List.mem_append]
      exact .inl (by rw [hx, e]; simp)
theorem drop_get {s r : List Oper} {m p : Nat} {o : Oper} (h : s ++ r = ops.toList.drop m) (hp : s[p]? = some o) : ops[m + p]? = some o := by
  have h1 : (ops.toList.drop m)[p]? = some o := by
    rw [← h, List.getElem?_append_left]
    · exact hp
    · exact (List.getElem?_eq_some_iff.1 hp).1
  rw [List.getElem?_drop] at h1
  simpa using h1
theorem dsts_sub {s : List Oper} {all : List Oper} (h : ∀ o ∈ s, o ∈ all) {i : Nat} (hi : i ∉ dsts all) : i ∉ dsts s := by
  intro hm
  obtain ⟨o, ho, hd⟩ := List.mem_flatMap.1 hm
  exact hi (List.mem_flatMap.2 ⟨o, h o ho, hd⟩)
theorem mem_of_drop {s r : List Oper} {m : Nat} (h : s ++ r = ops.toList.drop m) : ∀ o ∈ s, o ∈ ops.toList := fun o ho =>
  List.mem_of_mem_drop (by rw [← h]; exact List.mem_append_left _ ho)
theorem chL_mem {M : Nat} : ∀ {s : List Oper} {k p : Nat} {o : Oper}, (p, o) ∈ chL M s k ↔ ∃ q, p = k + q ∧ s[q]? = some o ∧ M.testBit p = true
  | [], k, p, o => by simp [chL]
  | x :: r, k, p, o => by
    have ih := chL_mem (M := M) (s := r) (k := k + 1) (p := p) (o := o)
    have step : (∃ q, p = k + q ∧ (x :: r)[q]? = some o ∧ M.testBit p = true) ↔ (p = k ∧ x = o ∧ M.testBit p = true) ∨ ∃ q, p = k + 1 + q ∧ r[q]? = some o ∧ M.testBit p = true := by
      constructor
      · rintro ⟨q, h1, h2, h3⟩
        cases q with
        | zero => exact .inl ⟨by omega, by simpa using h2, h3⟩
        | succ q => exact .inr ⟨q, by omega, by simpa using h2, h3⟩
      · rintro (⟨h1, h2, h3⟩ | ⟨q, h1, h2, h3⟩)
        · exact ⟨0, by omega, by simpa using h2, h3⟩
        · exact ⟨q + 1, by omega, by simpa using h2, h3⟩
    rw [step]
    unfold chL
    cases hM : M.testBit k with
    | true =>
      simp only [cond_true, List.mem_cons, Prod.mk.injEq, ih]
      constructor
      · rintro (⟨rfl, rfl⟩ | h)
        · exact .inl ⟨rfl, rfl, hM⟩
        · exact .inr h
      · rintro (⟨rfl, rfl, _⟩ | h)
        · exact .inl ⟨rfl, rfl⟩
        · exact .inr h
    | false =>
      simp only [cond_false, ih]
      constructor
      · exact fun h => .inr h
      · rintro (⟨rfl, rfl, h⟩ | h)
        · rw [hM] at h; cases h
        · exact h
theorem dropU_mem {p : Nat} : ∀ {U : List (Nat × Oper)} {x : Nat × Oper}, x ∈ dropU p U ↔ x ∈ U ∧ x.1 ≠ p
  | [], x => by simp [dropU]
  | y :: r, x => by
    unfold dropU
    cases h : Nat.beq y.1 p with
    | true =>
      have e := Nat.eq_of_beq_eq_true h
      simp only [cond_true, dropU_mem (U := r), List.mem_cons]
      constructor
      · exact fun ⟨a, b⟩ => ⟨.inr a, b⟩
      · rintro ⟨rfl | a, b⟩
        · exact absurd e b
        · exact ⟨a, b⟩
    | false =>
      have e := Nat.ne_of_beq_eq_false h
      simp only [cond_false, List.mem_cons, dropU_mem (U := r)]
      constructor
      · rintro (rfl | ⟨a, b⟩)
        · exact ⟨.inl rfl, e⟩
        · exact ⟨.inr a, b⟩
      · rintro ⟨rfl | a, b⟩
        · exact .inl rfl
        · exact .inr ⟨a, b⟩
theorem dropU_len {p : Nat} : ∀ {U : List (Nat × Oper)}, (dropU p U).length ≤ U.length ∧ ((∃ x ∈ U, x.1 = p) → (dropU p U).length < U.length)
  | [] => by simp [dropU]
  | y :: r => by
    have ih := dropU_len (p := p) (U := r)
    unfold dropU
    cases h : Nat.beq y.1 p with
    | true => simp only [cond_true, List.length_cons]; exact ⟨by omega, fun _ => by omega⟩
    | false =>
      have e := Nat.ne_of_beq_eq_false h
      simp only [cond_false, List.length_cons]
      refine ⟨by omega, ?_⟩
      rintro ⟨x, hx, hp⟩
      rcases List.mem_cons.1 hx with rfl | hx
      · exact absurd hp e
      · have := ih.2 ⟨x, hx, hp⟩; omega
theorem frontB_iff {B : List Nat} {p : Nat} : ∀ {U : List (Nat × Oper)}, (∀ x ∈ U, x.1 ≠ p → dep B x.1 p = false) → frontB B p U = true
  | [], _ => rfl
  | y :: r, h => by
    have ih := frontB_iff (U := r) fun x hx => h x (List.mem_cons_of_mem _ hx)
    unfold frontB
    cases hb : Nat.beq y.1 p with
    | true => exact ih
    | false => rw [h y (by simp) (Nat.ne_of_beq_eq_false hb)]; exact ih
theorem fronts_mem {B : List Nat} {U : List (Nat × Oper)} {x : Nat × Oper} (hf : frontB B x.1 U = true) : ∀ {l : List (Nat × Oper)}, x ∈ l → x ∈ fronts B U l
  | [], h => by cases h
  | y :: r, h => by
    unfold fronts
    rcases List.mem_cons.1 h with rfl | h
    · rw [hf]; simp
    · cases frontB B y.1 U with
      | true => simp [fronts_mem hf h]
      | false => exact fronts_mem hf h

/-- A segment whose operations are all done. -/
theorem At1.over {Av : List Nat} {ρ0 : VEnv} {K : Env → WP} {L : Array Bool} {a : Act} {w : World} {m : Nat} {s : List Oper} {sg : List (List Oper)} {ρ : VEnv} {ρc : Env} {vs : List Value} {T : Nat → Bool} {I : WP} {M fu : Nat} {U : List (Nat × Oper)} {C : Env → WP}
    (h : At1 Av P n ops ρ0 K L a w m s sg ρ ρc vs T I M fu U C) (hT : ∀ q, q < s.length → T q = true) : ∃ ρ2, At0 Av P n ops ρ0 K L a w (m + s.length) sg ρ2 := by
  have hU : U = [] := by
    rcases U with _ | ⟨x, r⟩
    · rfl
    · obtain ⟨q, hq⟩ := h.inU x (by simp)
      obtain ⟨h1, _, h3⟩ := (h.ahead q x.2).1 (by rw [← hq]; simp)
      rw [hT q (List.getElem?_eq_some_iff.1 h1).1] at h3; cases h3
  have hc : C ρc w := by
    have := h.walk
    rw [hU] at this
    cases fu <;> exact this
  have henv : ρc.val = ET s vs T ρ := by
    rw [h.env]
    exact ET_mask s vs _ _ ρ fun q hq => by simp [hT q hq]
  have hk : ∀ i, i ∉ dsts s → ρc.val i = ρ i := fun i hi => by rw [henv]; exact ET_keep s vs T ρ i hi
  obtain ⟨ρ2, hv, hg, hw⟩ := h.fin ρc w h.good hk hc
  refine ⟨ρ2, fun i => ?_, ?_, h.ne, h.bar, h.le, ?_, hg, fun i hi => ?_, hw⟩
  · rw [h.done]
    constructor
    · rintro (h1 | ⟨_, h2, _⟩) <;> omega
    · intro hi
      by_cases h1 : i < m
      · exact .inl h1
      · exact .inr ⟨by omega, hi, hT _ (by omega)⟩
  · have := h.flat
    rw [← List.drop_drop, ← this, List.drop_left]
  · rw [hv, henv]; exact h.agree
  · rw [hv, hk i (dsts_sub (mem_of_drop h.flat) hi)]; exact h.keep i hi

theorem countP_flip {p p' : Nat → Bool} {i : Nat} (h1 : p i = true) (h2 : p' i = false) (h : ∀ j, j ≠ i → p' j = p j) : ∀ (l : List Nat), l.Nodup → i ∈ l → l.countP p' + 1 = l.countP p
  | [], _, hi => by simp at hi
  | x :: r, hnd, hi => by
    rw [List.countP_cons, List.countP_cons]
    have hnd' := List.nodup_cons.1 hnd
    by_cases e : x = i
    · subst e
      rw [h1, h2]
      have : r.countP p' = r.countP p := List.countP_congr fun y hy => by rw [h y fun e => hnd'.1 (e ▸ hy)]
      simp [this]
    · rw [h x e]
      have := countP_flip h1 h2 h r hnd'.2 (by simpa [show ¬ i = x from fun h => e h.symm] using hi)
      omega
def left (ops : Array Oper) (L : Array Bool) : Nat := (List.range ops.size).countP fun i => !lst L i
theorem left_set {L : Array Bool} (hs : L.size = ops.size) {i : Nat} (hi : i < ops.size) (h : lst L i = false) : left ops (L.setIfInBounds i true) + 1 = left ops L :=
  countP_flip (p := fun i => !lst L i) (p' := fun j => !lst (L.setIfInBounds i true) j) (i := i) (by simp [h]) (by rw [lst_set (by omega)]; simp)
    (fun j hj => by rw [lst_set (by omega)]; simp [hj]) _ List.nodup_range (by simpa using hi)
theorem left_zero {L : Array Bool} (h : left ops L = 0) : ∀ i, i < ops.size → lst L i = true := fun i hi => by
  have := List.countP_eq_zero.1 h i (by simpa using hi)
  simpa using this
theorem exists_unl {L : Array Bool} (h : left ops L ≠ 0) : ∃ i, i < ops.size ∧ lst L i = false := by
  have : 0 < left ops L := Nat.pos_of_ne_zero h
  obtain ⟨i, hi, h⟩ := List.countP_pos_iff.1 this
  exact ⟨i, by simpa using hi, by simpa using h⟩
theorem ready_ne {L : Array Bool} (hd : drawOk ops.toList = true) (hs : L.size = ops.size) (h : left ops L ≠ 0) : Region.ready .any ops L ≠ [] := by
  obtain ⟨i, hi, hl⟩ := exists_unl h
  have key : ∀ k i, i ≤ k → i < ops.size → lst L i = false → ∃ j, j ∈ Region.ready .any ops L := by
    intro k
    induction k with
    | zero =>
      intro i hik hi hl
      have : i = 0 := by omega
      subst this
      refine ⟨0, List.mem_filter.2 ⟨by simpa using hi, ?_⟩⟩
      rw [Array.getElem?_eq_getElem hi]
      have hl' : L.getD 0 true = false := by
        unfold lst at hl
        rw [Array.getD_eq_getD_getElem?] at hl ⊢
        rw [Array.getElem?_eq_getElem (by omega)] at hl ⊢
        simpa using hl
      simp only [hl', Option.map_some, Option.getD_some, Array.all_eq_true_iff_forall_mem, Bool.not_false, Bool.true_and, Bool.or_eq_true, Bool.not_eq_true']
      intro e he
      cases hb : Region.binds .any e with
      | false => exact .inl rfl
      | true =>
        have := draw_edge hd (j := 0) (o := ops[0]) (by rw [Array.getElem?_toList]; exact Array.getElem?_eq_getElem hi) (by simpa using he) hb
        omega
    | succ k ih =>
      intro i hik hi hl
      by_cases hr : i ∈ Region.ready .any ops L
      · exact ⟨i, hr⟩
      · have hl' : L.getD i true = false := by
          unfold lst at hl
          rw [Array.getD_eq_getD_getElem?] at hl ⊢
          rw [Array.getElem?_eq_getElem (by omega)] at hl ⊢
          simpa using hl
        have : ¬ ∀ e ∈ ops[i].after, Region.binds .any e = true → lst L e.on = true := by
          intro hall
          refine hr (List.mem_filter.2 ⟨by simpa using hi, ?_⟩)
          rw [Array.getElem?_eq_getElem hi]
          simp only [hl', Option.map_some, Option.getD_some, Array.all_eq_true_iff_forall_mem, Bool.not_false, Bool.true_and, Bool.or_eq_true, Bool.not_eq_true']
          intro e he
          cases hb : Region.binds .any e with
          | false => exact .inl rfl
          | true => exact .inr (hall e he hb)
        simp only [Classical.not_forall] at this
        obtain ⟨e, he, hb, hn⟩ := this
        have hlt := draw_edge hd (j := i) (o := ops[i]) (by rw [Array.getElem?_toList]; exact Array.getElem?_eq_getElem hi) (by simpa using he) hb
        exact ih e.on (by omega) (by omega) (by simpa using hn)
  obtain ⟨j, hj⟩ := key i i (Nat.le_refl _) hi hl
  exact fun e => by rw [e] at hj; simp at hj
end
end Go.Jac
