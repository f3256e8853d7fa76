/- Several texts of this session's own, joined: My, Mz, Na, Nb, Nc, Nd, Ne, Nf, Ng, Nh. -/
import Derived.Test.YtgkbbihaaichbaaYe
import Derived.Test.YtgkbbihaaichbaaYc
import Derived.Laws.IdiomRangeMap
set_option maxRecDepth 100000
namespace Go.Proofs.Ytgkbbihaaichbaa
open Go Go.Jac
/-- Children are told exactly, parents have smaller numbers, nothing dropped is without children. -/
structure EI (P : Int → Prop) (last : Int) (M : List Vo) : Prop where
  ids : ∀ id x, vfind M id = some x → 1 ≤ id ∧ id ≤ last
  ch : ∀ id x, vfind M id = some x → ∀ k, k ∈ x.ch ↔ ∃ z, vfind M k = some z ∧ z.parent = id
  chn : ∀ id x, vfind M id = some x → x.ch.Nodup
  par : ∀ id x, vfind M id = some x → x.parent < id ∧ (x.parent = 0 ∨ ∃ z, vfind M x.parent = some z)
  dr : ∀ id x, vfind M id = some x → x.dr = true → x.ch = [] → P id
theorem EI.nil {P : Int → Prop} : EI P 0 [] := ⟨by simp [vfind], by simp [vfind], by simp [vfind], by simp [vfind], by simp [vfind]⟩
/-- When all that is left was dropped, nothing is left. -/
theorem EI.done {last : Int} {M : List Vo} (h : EI (fun _ => False) last M) (hn : Nv M) (hd : ∀ id x, vfind M id = some x → x.dr = true) : M = [] := by
  have key : ∀ (n : Nat) (id : Int) (x : Vo), vfind M id = some x → (last - id).toNat < n → False := by
    intro n
    induction n with
    | zero => intro id x _ h; omega
    | succ n ih =>
      intro id x hx hlt
      have h1 : x.ch ≠ [] := fun e => h.dr id x hx (hd id x hx) e
      obtain ⟨k, r, hk⟩ : ∃ k r, x.ch = k :: r := by
        cases hc : x.ch with
        | nil => exact absurd hc h1
        | cons k r => exact ⟨k, r, rfl⟩
      obtain ⟨z, hz, hp⟩ := (h.ch id x hx k).1 (by rw [hk]; simp)
      have h2 := (h.par k z hz).1
      have h3 := h.ids k z hz
      have h4 := h.ids id x hx
      exact ih k z hz (by omega)
  cases M with
  | nil => rfl
  | cons x r => exact (key _ x.id x (vfind_mem hn (by simp)) (Nat.lt_succ_self _)).elim
/-- Objects that differ in what says nothing of this. -/
theorem EI.map {P : Int → Prop} {last : Int} {M M' : List Vo} {f : Vo → Vo} (h : EI P last M) (hM : ∀ id, vfind M' id = (vfind M id).map f) (hp : ∀ x, (f x).parent = x.parent) (hc : ∀ x, (f x).ch = x.ch) (hd : ∀ x, (f x).dr = x.dr) : EI P last M' := by
  have hi : ∀ id x, vfind M' id = some x → ∃ y, vfind M id = some y ∧ x = f y := fun id x hx => by
    rw [hM] at hx
    obtain ⟨y, hy, e⟩ := Option.map_eq_some_iff.1 hx
    exact ⟨y, hy, e.symm⟩
  refine ⟨fun id x hx => ?_, fun id x hx k => ?_, fun id x hx => ?_, fun id x hx => ?_, fun id x hx => ?_⟩
  · obtain ⟨y, hy, -⟩ := hi id x hx
    exact h.ids id y hy
  · obtain ⟨y, hy, rfl⟩ := hi id x hx
    rw [hc, h.ch id y hy k]
    constructor
    · rintro ⟨z, hz, e⟩
      exact ⟨f z, by rw [hM, hz]; rfl, by rw [hp]; exact e⟩
    · rintro ⟨z, hz, e⟩
      obtain ⟨u, hu, rfl⟩ := hi k z hz
      exact ⟨u, hu, by rw [← hp]; exact e⟩
  · obtain ⟨y, hy, rfl⟩ := hi id x hx
    rw [hc]; exact h.chn id y hy
  · obtain ⟨y, hy, rfl⟩ := hi id x hx
    rw [hp]
    refine ⟨(h.par id y hy).1, ?_⟩
    rcases (h.par id y hy).2 with e | ⟨z, hz⟩
    · exact .inl e
    · exact .inr ⟨f z, by rw [hM, hz]; rfl⟩
  · obtain ⟨y, hy, rfl⟩ := hi id x hx
    rw [hd, hc]; exact h.dr id y hy
/-- One more, below one that stands there or below none. -/
theorem EI.add {P : Int → Prop} {last : Int} {M : List Vo} {Y : Vo} {v : Value} (h : EI P last M) (hl : 0 ≤ last) (hi : Y.id = last + 1) (hc : Y.ch = []) (hd : Y.dr = false) (hp : Y.parent = 0 ∨ ∃ z, vfind M Y.parent = some z) : EI P (last + 1) (addM M Y v) := by
  have hno : vfind M (last + 1) = none := by
    cases e : vfind M (last + 1) with
    | none => rfl
    | some z => have := h.ids _ z e; omega
  have hz : vfind M 0 = none := by
    cases e : vfind M 0 with
    | none => rfl
    | some z => have := h.ids _ z e; omega
  have hpl : Y.parent ≤ last ∧ 0 ≤ Y.parent := by
    rcases hp with e | ⟨z, e⟩
    · omega
    · have := h.ids _ z e; omega
  have hf : ∀ a, vfind (addM M Y v) a = if a = last + 1 then some Y else (vfind M a).map fun z => if a = Y.parent then { z with cv := v, ch := z.ch ++ [last + 1] } else z := by
    intro a
    unfold addM
    cases hup : vfind M Y.parent with
    | none =>
      simp only
      rw [vfind_cons, hi]
      by_cases e : a = last + 1
      · rw [if_pos e, if_pos e.symm]
      · rw [if_neg e, if_neg (fun h => e h.symm)]
        by_cases e2 : a = Y.parent
        · rw [e2, hup]; rfl
        · cases hm : vfind M a with
          | none => rfl
          | some z => simp [e2]
    | some up =>
      simp only
      have hui := (vfind_id hup).1
      rw [vfind_upd (y := { up with cv := v, ch := up.ch ++ [Y.id] }) hui, vfind_cons, hi]
      by_cases e2 : a = Y.parent
      · rw [if_pos e2, if_neg (by omega), e2, hup]; simp
      · rw [if_neg e2]
        by_cases e : a = last + 1
        · rw [if_pos e, if_pos e.symm]
        · rw [if_neg e, if_neg (fun h => e h.symm)]
          cases hm : vfind M a with
          | none => rfl
          | some z => simp [e2]
  have hcase : ∀ a x, vfind (addM M Y v) a = some x → (a = last + 1 ∧ x = Y) ∨ (a ≠ last + 1 ∧ ∃ z, vfind M a = some z ∧ x.parent = z.parent ∧ x.dr = z.dr ∧ x.ch = if a = Y.parent then z.ch ++ [last + 1] else z.ch) := by
    intro a x hx
    rw [hf] at hx
    split at hx
    · rename_i e
      exact .inl ⟨e, (Option.some.inj hx).symm⟩
    · rename_i e
      obtain ⟨z, hz, rfl⟩ := Option.map_eq_some_iff.1 hx
      refine .inr ⟨e, z, hz, ?_⟩
      split <;> exact ⟨rfl, rfl, rfl⟩
  have hfound : ∀ k, (∃ z, vfind (addM M Y v) k = some z ∧ True) ↔ k = last + 1 ∨ ∃ z, vfind M k = some z := by
    intro k
    rw [hf]
    by_cases e : k = last + 1
    · simp [e]
    · rw [if_neg e]
      cases vfind M k <;> simp [e]
  have hpar : ∀ k id, (∃ z, vfind (addM M Y v) k = some z ∧ z.parent = id) ↔ (k = last + 1 ∧ Y.parent = id) ∨ (k ≠ last + 1 ∧ ∃ z, vfind M k = some z ∧ z.parent = id) := by
    intro k id
    constructor
    · rintro ⟨z, hz, e⟩
      rcases hcase k z hz with ⟨e1, rfl⟩ | ⟨e1, u, hu, e2, -, -⟩
      · exact .inl ⟨e1, e⟩
      · exact .inr ⟨e1, u, hu, by rw [← e2]; exact e⟩
    · rintro (⟨e1, e2⟩ | ⟨e1, u, hu, e2⟩)
      · exact ⟨Y, by rw [hf, if_pos e1], e2⟩
      · refine ⟨if k = Y.parent then { u with cv := v, ch := u.ch ++ [last + 1] } else u, by rw [hf, if_neg e1, hu]; rfl, ?_⟩
        split <;> exact e2
  refine ⟨fun id x hx => ?_, fun id x hx k => ?_, fun id x hx => ?_, fun id x hx => ?_, fun id x hx => ?_⟩
  · rcases hcase id x hx with ⟨e, -⟩ | ⟨-, z, hz, -⟩
    · omega
    · have := h.ids id z hz; omega
  · rw [hpar]
    rcases hcase id x hx with ⟨e, rfl⟩ | ⟨e, z, hz, -, -, e3⟩
    · rw [hc]
      simp only [List.not_mem_nil, false_iff]
      rintro (⟨-, e2⟩ | ⟨-, u, hu, e2⟩)
      · omega
      · have h1 := h.par k u hu
        have h2 := h.ids k u hu
        omega
    · have hk := h.ch id z hz k
      have hlk : k ∈ z.ch → k ≠ last + 1 := fun hm e2 => by
        obtain ⟨u, hu, -⟩ := hk.1 hm
        rw [e2, hno] at hu; cases hu
      rw [e3]
      split
      · rename_i e4
        rw [List.mem_append, List.mem_singleton, hk]
        constructor
        · rintro (hm | rfl)
          · exact .inr ⟨hlk (hk.2 hm), hm⟩
          · exact .inl ⟨rfl, e4.symm⟩
        · rintro (⟨e5, -⟩ | ⟨-, hm⟩)
          · exact .inr e5
          · exact .inl hm
      · rename_i e4
        rw [hk]
        constructor
        · intro hm
          exact .inr ⟨hlk (hk.2 hm), hm⟩
        · rintro (⟨-, e5⟩ | ⟨-, hm⟩)
          · exact absurd e5.symm e4
          · exact hm
  · rcases hcase id x hx with ⟨e, rfl⟩ | ⟨e, z, hz, -, -, e3⟩
    · rw [hc]; exact List.nodup_nil
    · rw [e3]
      split
      · rw [List.nodup_append]
        refine ⟨h.chn id z hz, by simp, fun a ha b hb e5 => ?_⟩
        rw [List.mem_singleton.1 hb] at e5
        obtain ⟨u, hu, -⟩ := (h.ch id z hz a).1 ha
        rw [e5, hno] at hu; cases hu
      · exact h.chn id z hz
  · rcases hcase id x hx with ⟨e, rfl⟩ | ⟨e, z, hz, e2, -, -⟩
    · refine ⟨by omega, ?_⟩
      rcases hp with e1 | ⟨z, e1⟩
      · exact .inl e1
      · obtain ⟨u, hu, -⟩ := (hfound x.parent).2 (.inr ⟨z, e1⟩)
        exact .inr ⟨u, hu⟩
    · rw [e2]
      refine ⟨(h.par id z hz).1, ?_⟩
      rcases (h.par id z hz).2 with e1 | ⟨u, hu⟩
      · exact .inl e1
      · obtain ⟨t, ht, -⟩ := (hfound z.parent).2 (.inr ⟨u, hu⟩)
        exact .inr ⟨t, ht⟩
  · rcases hcase id x hx with ⟨e, rfl⟩ | ⟨e, z, hz, -, e2, e3⟩
    · rw [hd]; intro h; cases h
    · rw [e2, e3]
      intro hh
      split
      · simp
      · exact h.dr id z hz hh
/-- One that has no children is taken out. -/
def rmC (M : List Vo) (id p : Int) (v : Value) : List Vo := match vfind M p with
  | none => rmV id M
  | some up => { up with cv := v, ch := up.ch.filter fun k => decide (k ≠ id) } :: rmV p (rmV id M)
theorem EI.rm {P : Int → Prop} {last id : Int} {M : List Vo} {x : Vo} {v : Value} (h : EI P last M) (hx : vfind M id = some x) (hc : x.ch = []) : EI (fun k => (k ≠ id ∧ P k) ∨ k = x.parent) last (rmC M id x.parent v) := by
  have hne : x.parent ≠ id := by have := (h.par id x hx).1; omega
  have hf : ∀ a, vfind (rmC M id x.parent v) a = if a = id then none else (vfind M a).map fun z => if a = x.parent then { z with cv := v, ch := z.ch.filter fun k => decide (k ≠ id) } else z := by
    intro a
    unfold rmC
    cases hup : vfind M x.parent with
    | none =>
      simp only
      rw [vfind_rm]
      by_cases e : a = id
      · rw [if_pos e, if_pos e.symm]
      · rw [if_neg e, if_neg (fun h => e h.symm)]
        by_cases e2 : a = x.parent
        · rw [e2, hup]; rfl
        · cases hm : vfind M a with
          | none => rfl
          | some z => simp [e2]
    | some up =>
      simp only
      have hui := (vfind_id hup).1
      rw [vfind_upd (y := { up with cv := v, ch := up.ch.filter fun k => decide (k ≠ id) }) hui, vfind_rm]
      by_cases e2 : a = x.parent
      · rw [if_pos e2, if_neg (by rw [e2]; exact hne), e2, hup]; simp
      · rw [if_neg e2]
        by_cases e : a = id
        · rw [if_pos e, if_pos e.symm]
        · rw [if_neg e, if_neg (fun h => e h.symm)]
          cases hm : vfind M a with
          | none => rfl
          | some z => simp [e2]
  have hcase : ∀ a y, vfind (rmC M id x.parent v) a = some y → a ≠ id ∧ ∃ z, vfind M a = some z ∧ y.parent = z.parent ∧ y.dr = z.dr ∧ y.ch = if a = x.parent then z.ch.filter (fun k => decide (k ≠ id)) else z.ch := by
    intro a y hy
    rw [hf] at hy
    split at hy
    · cases hy
    · rename_i e
      obtain ⟨z, hz, rfl⟩ := Option.map_eq_some_iff.1 hy
      refine ⟨e, z, hz, ?_⟩
      split <;> exact ⟨rfl, rfl, rfl⟩
  have hback : ∀ a z, a ≠ id → vfind M a = some z → ∃ y, vfind (rmC M id x.parent v) a = some y ∧ y.parent = z.parent := by
    intro a z e hz
    refine ⟨if a = x.parent then { z with cv := v, ch := z.ch.filter fun k => decide (k ≠ id) } else z, by rw [hf, if_neg e, hz]; rfl, ?_⟩
    split <;> rfl
  refine ⟨fun a y hy => ?_, fun a y hy k => ?_, fun a y hy => ?_, fun a y hy => ?_, fun a y hy hd hh => ?_⟩
  · obtain ⟨-, z, hz, -⟩ := hcase a y hy
    exact h.ids a z hz
  · obtain ⟨e, z, hz, -, -, e3⟩ := hcase a y hy
    have hk := h.ch a z hz k
    have hR : (∃ u, vfind (rmC M id x.parent v) k = some u ∧ u.parent = a) ↔ k ≠ id ∧ k ∈ z.ch := by
      rw [hk]
      constructor
      · rintro ⟨u, hu, e4⟩
        obtain ⟨e5, t, ht, e6, -, -⟩ := hcase k u hu
        exact ⟨e5, t, ht, by rw [← e6]; exact e4⟩
      · rintro ⟨e5, t, ht, e6⟩
        obtain ⟨u, hu, e7⟩ := hback k t e5 ht
        exact ⟨u, hu, by rw [e7]; exact e6⟩
    rw [hR, e3]
    split
    · rw [List.mem_filter]
      simp only [decide_eq_true_eq]
      exact And.comm
    · rename_i e4
      constructor
      · intro hm
        refine ⟨fun e5 => ?_, hm⟩
        obtain ⟨u, hu, e6⟩ := hk.1 hm
        rw [e5, hx] at hu
        obtain rfl := Option.some.inj hu
        exact e4 e6.symm
      · exact fun hm => hm.2
  · obtain ⟨e, z, hz, -, -, e3⟩ := hcase a y hy
    rw [e3]
    split
    · exact List.Nodup.sublist List.filter_sublist (h.chn a z hz)
    · exact h.chn a z hz
  · obtain ⟨e, z, hz, e2, -, -⟩ := hcase a y hy
    rw [e2]
    refine ⟨(h.par a z hz).1, ?_⟩
    rcases (h.par a z hz).2 with e1 | ⟨u, hu⟩
    · exact .inl e1
    · have e5 : z.parent ≠ id := fun e5 => by
        have := (h.ch id x hx a).2 ⟨z, hz, e5⟩
        rw [hc] at this; cases this
      obtain ⟨t, ht, -⟩ := hback z.parent u e5 hu
      exact .inr ⟨t, ht⟩
  · obtain ⟨e, z, hz, -, e2, e3⟩ := hcase a y hy
    by_cases e4 : a = x.parent
    · exact .inr e4
    · rw [e3, if_neg e4] at hh
      rw [e2] at hd
      exact .inl ⟨e, h.dr a z hz hd hh⟩
/-- One is dropped. -/
theorem EI.drop {last id : Int} {M : List Vo} {x : Vo} (h : EI (fun _ => False) last M) (hx : vfind M id = some x) : EI (fun k => k = id) last ({ x with dr := true } :: rmV id M) := by
  have hui := (vfind_id hx).1
  have hf : ∀ a, vfind ({ x with dr := true } :: rmV id M) a = if a = id then some { x with dr := true } else vfind M a := fun a => vfind_upd (y := { x with dr := true }) hui a
  have hcase : ∀ a y, vfind ({ x with dr := true } :: rmV id M) a = some y → ∃ z, vfind M a = some z ∧ y.parent = z.parent ∧ y.ch = z.ch ∧ (a ≠ id → y.dr = z.dr) := by
    intro a y hy
    rw [hf] at hy
    split at hy
    · rename_i e
      subst e
      obtain rfl := Option.some.inj hy
      exact ⟨x, hx, rfl, rfl, fun h => absurd rfl h⟩
    · exact ⟨y, hy, rfl, rfl, fun _ => rfl⟩
  have hback : ∀ a z, vfind M a = some z → ∃ y, vfind ({ x with dr := true } :: rmV id M) a = some y ∧ y.parent = z.parent := by
    intro a z hz
    rw [hf]
    by_cases e : a = id
    · subst e
      rw [hx] at hz
      obtain rfl := Option.some.inj hz
      rw [if_pos rfl]
      exact ⟨_, rfl, rfl⟩
    · rw [if_neg e]
      exact ⟨z, hz, rfl⟩
  refine ⟨fun a y hy => ?_, fun a y hy k => ?_, fun a y hy => ?_, fun a y hy => ?_, fun a y hy hd hh => ?_⟩
  · obtain ⟨z, hz, -⟩ := hcase a y hy
    exact h.ids a z hz
  · obtain ⟨z, hz, -, e3, -⟩ := hcase a y hy
    rw [e3, h.ch a z hz k]
    constructor
    · rintro ⟨u, hu, e4⟩
      obtain ⟨t, ht, e5⟩ := hback k u hu
      exact ⟨t, ht, by rw [e5]; exact e4⟩
    · rintro ⟨u, hu, e4⟩
      obtain ⟨t, ht, e5, -⟩ := hcase k u hu
      exact ⟨t, ht, by rw [← e5]; exact e4⟩
  · obtain ⟨z, hz, -, e3, -⟩ := hcase a y hy
    rw [e3]; exact h.chn a z hz
  · obtain ⟨z, hz, e2, -, -⟩ := hcase a y hy
    rw [e2]
    refine ⟨(h.par a z hz).1, ?_⟩
    rcases (h.par a z hz).2 with e1 | ⟨u, hu⟩
    · exact .inl e1
    · obtain ⟨t, ht, -⟩ := hback z.parent u hu
      exact .inr ⟨t, ht⟩
  · obtain ⟨z, hz, -, e3, e4⟩ := hcase a y hy
    by_cases e : a = id
    · exact e
    · rw [e4 e] at hd
      rw [e3] at hh
      exact (h.dr a z hz hd hh).elim
end Go.Proofs.Ytgkbbihaaichbaa

set_option maxRecDepth 100000
set_option maxHeartbeats 800000
namespace Go.Jac
open Go
section
variable {P : Program} {w0 w : World} {L : List HP} {K : Value → WP} {elem : Nat} {sv y : Value} {zero : Array Value}
variable {α : Type} {f : α → List Value} {enc : α → Value} {p : α → Bool} {S : List α}
def GDelI (P : Program) (n : Nat) (zero : Array Value) (a0 a1 : Value) (KR : Value → WP) : WP :=
  FnV P (.func (.func n) #[] #[]) #[a0, a1] fun v10 =>
  BinI .eql v10 (.int .i64 (-1)) fun v12 =>
  Cnd v12 (KR a0)
  (BinI .add v10 (.int .i64 1) fun v15 =>
  LoopC [v10, v15] fun vK vs => AllE <|
  UN vs fun v5 vs =>
  UN vs fun v6 _ =>
  LenS a0 fun v18 =>
  BinI .lss v6 v18 fun v19 =>
  Cnd v19 (IA 1 a0 v6 fun v24 =>
  Ld1 v24 fun v25 =>
  FnV P a1 #[v25] fun v28 =>
  Un .not v28 fun v29 =>
  Cnd v29 (IA 1 a0 v5 fun v33 =>
  St 1 v33 v25 fun _ =>
  BinI .add v5 (.int .i64 1) fun v35 =>
  BinI .add v6 (.int .i64 1) fun v21 =>
  vK [v35, v21])
  (BinI .add v6 (.int .i64 1) fun v21_1 =>
  vK [v5, v21_1]))
  (SlC 1 a0 (some v5) none fun v38 =>
  Ex P (clrS zero v38) fun _ =>
  SlC 1 a0 none (some v5) fun v41 =>
  KR v41))
theorem gdeli_ok {n : Nat} (hf : ∀ x, (f x).length = 1) (h1 : ∀ x ∈ S, ∀ u ∈ f x, u.oneCell' = true) (hev : ∀ x, (enc x).cells.toList = f x) (hen : ∀ x, f x = [enc x]) (hz : zero.size = 1) (hz1 : ∀ u ∈ zero.toList, u.oneCell' = true) (hS : S.length ≤ 4294967296)
    (d : D w0 (Rw elem 1 sv S.length (S.flatMap f) :: L) w)
    (hix : ∀ (w : World) (K : Value → WP), D w0 (Rw elem 1 sv S.length (S.flatMap f) :: L) w → (∀ w', D w0 (Rw elem 1 sv S.length (S.flatMap f) :: L) w' → K (.int .i64 (fidx p S)) w') → FnV P (.func (.func n) #[] #[]) #[sv, y] K w)
    (hy : ∀ (A : HP) (x : α) (w : World) (K : Value → WP), x ∈ S → D w0 (A :: L) w → (∀ w', D w0 (A :: L) w' → K (.bool (p x)) w') → FnV P y #[enc x] K w)
    (k : ∀ sv' w', D w0 (Rw elem 1 sv' (S.filter fun x => !p x).length ((S.filter fun x => !p x).flatMap f) :: L) w' → K sv' w') : GDelI P n zero sv y K w := by
  unfold GDelI
  refine hix _ _ d fun w d => ?_
  simp only [SEM]
  refine ⟨fun h => ?_, fun h => ?_⟩
  · have := k sv w
    rw [fidx_none h] at this
    exact this d
  obtain ⟨i0, hi0, hle0, he0, hb0⟩ : ∃ i0 : Nat, ∃ h : i0 < S.length, p S[i0] = true ∧ fidx p S = i0 ∧ ∀ j (hj : j < S.length), j < i0 → p S[j] = false := by
    unfold fidx at h ⊢
    split at h
    · rename_i hlt
      refine ⟨S.findIdx p, hlt, List.findIdx_getElem (w := hlt), by rw [if_pos hlt], fun j hj hji => by simpa using List.not_of_lt_findIdx hji⟩
    · omega
  rw [he0, w64 (by omega) (by omega)]
  obtain ⟨b, cap, junk0, rfl, hcap, hl2, -⟩ := Rw.block d.1 (by omega)
  refine ⟨fun vs w' => ∃ (i j : Nat) (T : List α), vs = [.int .i64 i, .int .i64 j] ∧ i < j ∧ j ≤ S.length ∧ T.length = S.length ∧ T.take i = (S.take j).filter (fun x => !p x) ∧ T.drop j = S.drop j ∧ D w0 (Rw elem 1 (.slice (some ⟨b, 0, none⟩) S.length cap) T.length (T.flatMap f) :: L) w', fun vs _ => match vs with | [_, .int _ j] => S.length - j.toNat | _ => 0, ⟨i0, i0 + 1, S, rfl, by omega, by omega, rfl, ?_, rfl, d⟩, ?_⟩
  · rw [List.take_succ_eq_append_getElem hi0, List.filter_append, filter_take_none hb0]
    simp [hle0]
  clear d
  rintro _ w ⟨i, j, T, rfl, hij, hj, hT, ht1, ht2, d⟩ _
  simp only [UN]
  simp only [SEM]
  refine ⟨fun hlt => ?_, fun hge => ?_⟩
  · have hlt' : j < T.length := by omega
    have hTj : T[j] = S[j]'(by omega) := by
      have e1 : (T.drop j)[0]? = (S.drop j)[0]? := by rw [ht2]
      rw [List.getElem?_drop, List.getElem?_drop, Nat.add_zero, List.getElem?_eq_getElem hlt', List.getElem?_eq_getElem (by omega)] at e1
      exact Option.some.inj e1
    obtain ⟨b1, cap1, cs, e, g, hc⟩ := rec_at hf d (i := (j : Int)) (by omega) (by omega)
    rw [hT] at e
    cases e
    refine ia_ok (by omega) (by omega) ?_
    refine ld1 g (v := enc T[j]) (by rw [Nat.zero_add]; have := hc 0 (enc T[j]) (by rw [hen]; rfl); simpa using this) ?_
    rw [hTj]
    have hmem : S[j]'(by omega) ∈ S := List.getElem_mem _
    refine hy _ _ _ _ hmem d fun w d => ?_
    simp only [SEM]
    refine ⟨fun hp => ?_, fun hp => ?_⟩
    · refine rw_st (S := T) (f := f) (n := i) d (by omega) (S[j]'(by omega)) (.h _) hf (hev _) (h1 _ hmem) fun w d => ?_
      simp only [SEM]
      rw [w64 (by omega) (by omega), w64 (by omega) (by omega)]
      refine ⟨⟨i + 1, j + 1, T.set i S[j], by simp, by omega, by omega, by simp [hT], ?_, ?_, d⟩, by show S.length - ((j : Int) + 1).toNat < S.length - (j : Int).toNat; omega⟩
      · rw [List.take_succ_eq_append_getElem (by simp; omega), List.take_set_of_le (Nat.le_refl _), ht1, List.take_succ_eq_append_getElem (i := j) (by omega), List.filter_append]
        simp [hp]
      · rw [List.drop_set_of_lt (by omega), ← List.drop_drop, ← List.drop_drop, ht2]
    · rw [w64 (by omega) (by omega)]
      refine ⟨⟨i, j + 1, T, by simp, by omega, by omega, hT, ?_, ?_, d⟩, by show S.length - ((j : Int) + 1).toNat < S.length - (j : Int).toNat; omega⟩
      · rw [ht1, List.take_succ_eq_append_getElem (i := j) (by omega), List.filter_append]
        simp [hp]
      · rw [← List.drop_drop, ← List.drop_drop, ht2]
  · have hj' : j = S.length := by omega
    subst hj'
    rw [List.take_length] at ht1
    obtain ⟨b1, cap1, junk, e, hcap1, hl3, s⟩ := Rw.block d.1 (by omega)
    rw [hT] at e
    cases e
    have d1 : D w0 (cel b elem (T.flatMap f ++ junk) :: L) w := ⟨s, d.2⟩
    refine slc_ok i S.length rfl ⟨_, rfl, by omega⟩ rfl ?_
    rw [if_neg (by omega)]
    simp only [Option.map_some, add_of, Nat.zero_add]
    have hm : (S.length - i) * 1 + i * 1 = S.length * 1 := by rw [← Nat.add_mul]; congr 1; omega
    have hce : S.length * 1 ≤ cap * 1 := Nat.mul_le_mul_right _ hcap
    refine clr_ok d1 (by omega) hz1 (by rw [hl3, hz]; omega) fun w d2 => ?_
    refine slc_ok 0 i ⟨_, rfl, by omega⟩ rfl rfl ?_
    have e0 : (if cap = 0 then (some ⟨b, 0, none⟩ : Option Addr) else (some ⟨b, 0, none⟩ : Option Addr).map (·.add (0 * 1))) = some ⟨b, 0, none⟩ := by
      split
      · rfl
      · simp [add_of]
    rw [e0, Nat.sub_zero, Nat.sub_zero]
    have hlen : (S.filter fun x => !p x).length = i := by rw [← ht1, List.length_take]; omega
    have hzl : ((Builtin.zeroCells zero (S.length - i)).toList).length = (S.length - i) * 1 := by rw [zeros_len, hz]
    have hti : ((T.take i).flatMap f).length = i * 1 := by rw [flat_len hf, List.length_take]; congr 1; omega
    have hsp : splice (T.flatMap f ++ junk) (i * 1) (Builtin.zeroCells zero (S.length - i)).toList = (T.take i).flatMap f ++ ((Builtin.zeroCells zero (S.length - i)).toList ++ junk) := by
      have e1 : T.flatMap f = (T.take i).flatMap f ++ (T.drop i).flatMap f := by rw [← List.flatMap_append, List.take_append_drop]
      have h4 : ((T.drop i).flatMap f).length = (S.length - i) * 1 := by rw [flat_len hf, List.length_drop, hT]
      rw [splice_eq _ _ _ (by rw [hl3, hzl]; omega), e1, List.append_assoc ((T.take i).flatMap f), hzl, List.take_append_of_le_length (by omega), List.take_of_length_le (by omega), ← List.append_assoc ((T.take i).flatMap f), List.drop_append, List.drop_eq_nil_of_le (by rw [List.length_append]; omega), List.nil_append, List.length_append, hti, h4, Nat.sub_self, List.drop_zero, List.append_assoc]
    rw [hsp, ht1] at d2
    refine k _ _ ?_
    rw [hlen]
    refine ⟨Rw.mk d2.1 (by omega) (by rw [flat_len hf, hlen]) ?_, d2.2⟩
    rw [← ht1, ← hsp, splice_length]; exact hl3
end
end Go.Jac

set_option maxRecDepth 100000
set_option maxHeartbeats 800000
namespace Go.Proofs.Ytgkbbihaaichbaa
open Go Go.Jac
section
variable {w0 w : World} {L : List HP} {K : Value → WP} {sv : Value}
theorem hld1 (b o : Nat) (v : Value) (t : TypeId) (cs : List Value) (w : World) (K : Value → WP) (g : hw w b = some (.cells cs.toArray t (0, 0))) (hc : ∀ j x, ([v] : List Value)[j]? = some x → cs[o + j]? = some x) (k : K v w) : Ld1 (.pointer (some ⟨b, o, none⟩)) K w :=
  ld1 g (by have := hc 0 v rfl; simpa using this) k
theorem DelI_ok {S : List Int} {bi : Nat} {id : Int} (hS : S.length ≤ 1000000) (d : D w0 (Rw 3 1 sv S.length (S.flatMap nc) :: cel bi 3 [.int .i64 id] :: L) w)
    (k : ∀ sv' w', D w0 (Rw 3 1 sv' (S.filter fun k => decide (k ≠ id)).length ((S.filter fun k => decide (k ≠ id)).flatMap nc) :: cel bi 3 [.int .i64 id] :: L) w' → K sv' w') :
    Cl pg 39 #[sv, .func (.func 40) #[] #[.pointer (some ⟨bi, 0, none⟩)]] K w := by
  refine V.slices_DeleteFunc_int_int_ok ?_
  have e : (fun x : Int => !decide (x = id)) = fun x => decide (x ≠ id) := by funext x; simp
  have hc1 : ∀ (x : Int) (w : World) (K : Value → WP) (A : HP), D w0 (A :: cel bi 3 [.int .i64 id] :: L) w → (∀ w', D w0 (A :: cel bi 3 [.int .i64 id] :: L) w' → K (.bool (decide (x = id))) w') → FnV pg (.func (.func 40) #[] #[.pointer (some ⟨bi, 0, none⟩)]) #[.int .i64 x] K w := by
    intro x w K A d k
    refine fn11 (fun _ _ => rfl) (V.vmo_Set_Drop_c1_ok ?_)
    unfold V.vmo_Set_Drop_c1
    refine ldm d (.t _ _ (.h _)) (v := .int .i64 id) rfl ?_
    simp only [SEM]
    exact k w d
  refine (gdeli_ok (P := pg) (n := 67) (f := nc) (enc := fun x => .int .i64 x) (p := fun k => decide (k = id)) (zero := #[.int .i64 0]) (K := K) nc_len (fun x _ u hu => by unfold nc at hu; rw [List.mem_singleton.1 hu]; rfl) (fun x => rfl) (fun x => rfl) rfl (by simp [Value.oneCell']) (by omega) d (fun w K d k => ?_) (fun A x w K _ d k => hc1 x w K A d k) (fun sv' w d => ?_) : GDelI pg 67 #[.int .i64 0] sv _ K w)
  · refine fn20 (fun _ _ => rfl) (V.slices_IndexFunc_int_int_ok ?_)
    exact gidxf_ok (LD := Ld1) (enc := fun x => .int .i64 x) (p := fun k => decide (k = id)) nc_len (by omega) (fun b o x t cs w K g hc k => hld1 b o (.int .i64 x) t cs w K g hc k) d (fun x w K _ d k => hc1 x w K _ d k) k
  · rw [e] at d
    exact k sv' w d
end
end Go.Proofs.Ytgkbbihaaichbaa

set_option maxRecDepth 100000
namespace Go.Proofs.Ytgkbbihaaichbaa
open Go Go.Jac
theorem BaseN.rm {M : List Vo} {id : Int} (hnp : ∀ a z, vfind M a = some z → z.parent ≠ id) {n : Nat} {x y : Vo} {t : Int} (h : BaseN M n x y t) (hx : ∃ a, vfind M a = some x) : BaseN (rmV id M) n x y t := by
  induction h with
  | z h => exact .z h
  | s h hz _ ih =>
    obtain ⟨a, ha⟩ := hx
    exact .s h (by rw [vfind_rm, if_neg (fun e => hnp a _ ha e.symm)]; exact hz) (ih ⟨_, hz⟩)
theorem VW.rm {cap : Int} {F : List Fr} {M : List Vo} {id : Int} {x : Vo} (h : VW cap F M) (hx : vfind M id = some x) (hpl : x.pl = []) (hnp : ∀ a z, vfind M a = some z → z.parent ≠ id) : VW cap F (rmV id M) := by
  have hi : ∀ a z, vfind (rmV id M) a = some z → vfind M a = some z := fun a z hz => by
    rw [vfind_rm] at hz
    split at hz
    · cases hz
    · exact hz
  refine ⟨h.nd.rm id, h.ok, fun z hz => h.sz z (rmv_mem.1 hz).1, fun a z hz => h.frm a z (hi a z hz), fun a z z' h1 h2 h3 => h.dep a z z' (hi a z h1) h2 (hi _ _ h3), fun a z hz => ?_, fun a z hz => h.hasf a z (hi a z hz), fun a z hz => h.kn a z (hi a z hz), fun f => ?_⟩
  · obtain ⟨N, y, t, hN, hb⟩ := h.base a z (hi a z hz)
    exact ⟨N, y, t, hN, hb.rm hnp ⟨_, hi a z hz⟩⟩
  · rw [h.ui f, tot_rm h.nd hx f, hpl]
    simp [cnt]
/-- One less, and its parent knows. -/
theorem VW.rmC {cap : Int} {F : List Fr} {M : List Vo} {id p : Int} {x : Vo} {v : Value} (h : VW cap F M) (hx : vfind M id = some x) (hpl : x.pl = []) (hnp : ∀ a z, vfind M a = some z → z.parent ≠ id) (hpi : p ≠ id) : VW cap F (rmC M id p v) := by
  unfold Go.Proofs.Ytgkbbihaaichbaa.rmC
  have h1 := h.rm hx hpl hnp
  cases hup : vfind M p with
  | none => exact h1
  | some up => exact h1.ch (cv := v) (ch := up.ch.filter fun k => decide (k ≠ id)) (y := up) (by rw [vfind_rm, if_neg (fun e => hpi e.symm)]; exact hup)
/-- When nothing is left no frame is used. -/
theorem VW.none_used {cap : Int} {F : List Fr} (h : VW cap F []) : usedF F = 0 := by
  unfold usedF
  rw [List.countP_eq_zero]
  intro y hy
  obtain ⟨i, hi, rfl⟩ := List.getElem_of_mem hy
  have h1 := h.ui i
  rw [fr_get hi] at h1
  have h2 : (F[i]).users = 0 := by rw [h1]; rfl
  unfold us0
  simp [h2]
end Go.Proofs.Ytgkbbihaaichbaa

set_option maxRecDepth 100000
set_option maxHeartbeats 1600000
namespace Go.Proofs.Ytgkbbihaaichbaa
open Go Go.Jac
section
variable {w0 w : World} {L : List HP} {K : Value → WP} {b : Nat} {last most cap : Int} {F : List Fr} {M : List Vo}
theorem VDrop_no {id : Int} (h : VW cap F M) (hx : live M id = none) (d : D w0 (Vs b last most cap F M :: L) w)
    (k : ∀ w', D w0 (Vs b last most cap F M :: L) w' → K (.tuple #[.slice none 0 0, .int .i64 (-25)]) w') :
    Cl pg 20 #[.pointer (some ⟨b, 0, none⟩), .int .i64 id] K w := by
  refine V.vmo_Set_Drop_ok ?_
  unfold V.vmo_Set_Drop
  simp only [cells_int]
  refine d_new _ d fun bi w d => ?_
  have d := d.swap
  obtain ⟨m, pb, d⟩ := Vs.out d
  repeat (first | refine drw d fun w d => ?_ | (simp +decide only [SEM]) | (apply ldm d; (focus ((repeat (first | exact .h _ | refine .t _ _ ?_)); done)); (focus rfl)) | (apply lam d; (focus ((repeat (first | exact .h _ | refine .t _ _ ?_)); done)); (focus rfl)) | (((repeat (refine bld_c rfl rfl (by simp) ?_; simp only [List.set_cons_zero, List.set_cons_succ])); refine bld_n ?_)) | (refine d_new _ d fun bn w d => ?_) | refine bsl1 (by first | rfl | (simp only [cells_agg, cells_int, cells_bool, cells_ptr, cells_sl, cells_map, cells_fn, List.drop_succ_cons, List.drop_zero, List.take_succ_cons, List.take_zero, Nat.zero_add, Nat.reduceAdd, Int.toNat_natCast, Int.toNat_zero]; rfl)) rfl d (by decide) (by decide) fun bn w d => ?_ | refine bsl2 rfl rfl d fun bn w d => ?_ | refine bsl0 d fun bn w d => ?_ | refine qt d ?_ | refine qe_nil ?_ | refine qe_fa ?_ | refine qe_len ?_ | (apply qlm; (focus ((repeat (first | exact .h _ | refine .t _ _ ?_)); done)); (focus rfl)) | (apply qam; (focus ((repeat (first | exact .h _ | refine .t _ _ ?_)); done)); (focus rfl)) | refine qe _ (fun w d => by ((repeat (refine bld_c rfl rfl (by simp) ?_; simp only [List.set_cons_zero, List.set_cons_succ])); refine bld_n ?_); exact ⟨rfl, rfl⟩) ?_ | refine qe_ext rfl ?_ | refine qe_op (fun _ _ => BinI_add) ?_ | refine qe_op (fun _ _ => BinI_sub) ?_ | refine qe_op (fun _ _ => BinI_mul) ?_ | refine qe_op (fun _ _ => BinI_eql) ?_ | refine qe_op (fun _ _ => BinI_neq) ?_ | refine qe_op (fun _ _ => BinI_lss) ?_ | refine qe_op (fun _ _ => BinI_leq) ?_ | refine qe_op (fun _ _ => BinI_gtr) ?_ | refine qe_op (fun _ _ => BinI_geq) ?_ | refine qe_op (fun _ _ => Un_not _) ?_ | refine qia (by first | omega | (simp; omega)) ?_ | refine qia0 (by first | omega | (simp; omega)) ?_ | (focus (apply qln; (focus ((repeat (first | exact .h _ | refine .t _ _ ?_)); done)); (focus exact fun _ => rfl); rotate_left; (focus (first | omega | (simp; done) | (simp; omega))))) | (focus (apply ql1; (focus ((repeat (first | exact .h _ | refine .t _ _ ?_)); done)); (focus exact fun _ => rfl); (focus rfl); rotate_left; (focus (first | omega | (simp; done) | (simp; omega))))) | (focus (apply ql0; (focus ((repeat (first | exact .h _ | refine .t _ _ ?_)); done)); (focus exact fun _ => rfl); (focus rfl); rotate_left; (focus (first | omega | (simp; done) | (simp; omega))))) | (apply swm d; (focus ((repeat (first | exact .h _ | apply Rp.t)); done)); (focus rfl); (focus rfl); (focus exact ones rfl); intro w d; simp only [SPL] at d) | (apply stm d; (focus ((repeat (first | exact .h _ | apply Rp.t)); done)); (focus rfl); (focus simp); (focus exact ones rfl); intro w d; simp only [SPL] at d) | (apply lpm d; (focus ((repeat (first | exact .h _ | refine .t _ _ ?_)); done)); (focus (simp only [SEM]; rfl)); (focus rfl)) | (focus (apply rw_fld d; (focus ((repeat (first | exact .h _ | refine .t _ _ ?_)); done)); (focus exact fun _ => rfl); (focus rfl); rotate_left; (focus (first | omega | (simp; done) | (simp; omega))))) | (focus (apply rw_el1 d; (focus ((repeat (first | exact .h _ | refine .t _ _ ?_)); done)); (focus exact fun _ => rfl); (focus rfl); rotate_left; (focus (first | omega | (simp; done) | (simp; omega))))) | (focus (apply rw_elN d; (focus ((repeat (first | exact .h _ | refine .t _ _ ?_)); done)); (focus exact fun _ => rfl); rotate_left; (focus (first | omega | (simp; done) | (simp; omega))))) | (focus (apply rw_fld0 d; (focus ((repeat (first | exact .h _ | refine .t _ _ ?_)); done)); (focus exact fun _ => rfl); (focus rfl); rotate_left; (focus (first | omega | (simp; done) | (simp; omega))))) | (focus (apply rw_el10 d; (focus ((repeat (first | exact .h _ | refine .t _ _ ?_)); done)); (focus exact fun _ => rfl); (focus rfl); rotate_left; (focus (first | omega | (simp; done) | (simp; omega))))) | (focus (apply rw_elN0 d; (focus ((repeat (first | exact .h _ | refine .t _ _ ?_)); done)); (focus exact fun _ => rfl); rotate_left; (focus (first | omega | (simp; done) | (simp; omega))))) | refine ch d ?_ | refine ch (D.tail d) ?_ | refine ch (D.tail (D.tail d)) ?_ | refine ch (D.tail (D.tail (D.tail d))) ?_ | refine qe _ (fun w d => max2_ok ⟨rfl, rfl⟩) ?_ | refine qe _ (fun w d => min2_ok ⟨rfl, rfl⟩) ?_ | refine max2_ok ?_ | refine min2_ok ?_ | refine bsl3 rfl rfl rfl d fun bn w d => ?_ | refine qe_op (fun _ _ => BinI_quo rfl) ?_ | refine qe_op (fun _ _ => BinI_rem rfl) ?_ | refine qe_op (fun _ _ => BinI_or) ?_ | refine qe_op (fun _ _ => BinI_and) ?_ | refine qe_op (fun _ _ => BinI_andNot) ?_ | refine qe_op (fun _ _ => BinI_shl) ?_ | refine qe_op (fun _ _ => BinI_shr) ?_)
  refine fn20 (fun _ _ => rfl) (vfind_ok h.nd d (fun hno w d => ?_) fun x hx' w d => by rw [hx] at hx'; cases hx')
  repeat (first | refine drw d fun w d => ?_ | (simp +decide only [SEM]) | (apply ldm d; (focus ((repeat (first | exact .h _ | refine .t _ _ ?_)); done)); (focus rfl)) | (apply lam d; (focus ((repeat (first | exact .h _ | refine .t _ _ ?_)); done)); (focus rfl)) | (((repeat (refine bld_c rfl rfl (by simp) ?_; simp only [List.set_cons_zero, List.set_cons_succ])); refine bld_n ?_)) | (refine d_new _ d fun bn w d => ?_) | refine bsl1 (by first | rfl | (simp only [cells_agg, cells_int, cells_bool, cells_ptr, cells_sl, cells_map, cells_fn, List.drop_succ_cons, List.drop_zero, List.take_succ_cons, List.take_zero, Nat.zero_add, Nat.reduceAdd, Int.toNat_natCast, Int.toNat_zero]; rfl)) rfl d (by decide) (by decide) fun bn w d => ?_ | refine bsl2 rfl rfl d fun bn w d => ?_ | refine bsl0 d fun bn w d => ?_ | refine qt d ?_ | refine qe_nil ?_ | refine qe_fa ?_ | refine qe_len ?_ | (apply qlm; (focus ((repeat (first | exact .h _ | refine .t _ _ ?_)); done)); (focus rfl)) | (apply qam; (focus ((repeat (first | exact .h _ | refine .t _ _ ?_)); done)); (focus rfl)) | refine qe _ (fun w d => by ((repeat (refine bld_c rfl rfl (by simp) ?_; simp only [List.set_cons_zero, List.set_cons_succ])); refine bld_n ?_); exact ⟨rfl, rfl⟩) ?_ | refine qe_ext rfl ?_ | refine qe_op (fun _ _ => BinI_add) ?_ | refine qe_op (fun _ _ => BinI_sub) ?_ | refine qe_op (fun _ _ => BinI_mul) ?_ | refine qe_op (fun _ _ => BinI_eql) ?_ | refine qe_op (fun _ _ => BinI_neq) ?_ | refine qe_op (fun _ _ => BinI_lss) ?_ | refine qe_op (fun _ _ => BinI_leq) ?_ | refine qe_op (fun _ _ => BinI_gtr) ?_ | refine qe_op (fun _ _ => BinI_geq) ?_ | refine qe_op (fun _ _ => Un_not _) ?_ | refine qia (by first | omega | (simp; omega)) ?_ | refine qia0 (by first | omega | (simp; omega)) ?_ | (focus (apply qln; (focus ((repeat (first | exact .h _ | refine .t _ _ ?_)); done)); (focus exact fun _ => rfl); rotate_left; (focus (first | omega | (simp; done) | (simp; omega))))) | (focus (apply ql1; (focus ((repeat (first | exact .h _ | refine .t _ _ ?_)); done)); (focus exact fun _ => rfl); (focus rfl); rotate_left; (focus (first | omega | (simp; done) | (simp; omega))))) | (focus (apply ql0; (focus ((repeat (first | exact .h _ | refine .t _ _ ?_)); done)); (focus exact fun _ => rfl); (focus rfl); rotate_left; (focus (first | omega | (simp; done) | (simp; omega))))) | (apply swm d; (focus ((repeat (first | exact .h _ | apply Rp.t)); done)); (focus rfl); (focus rfl); (focus exact ones rfl); intro w d; simp only [SPL] at d) | (apply stm d; (focus ((repeat (first | exact .h _ | apply Rp.t)); done)); (focus rfl); (focus simp); (focus exact ones rfl); intro w d; simp only [SPL] at d) | (apply lpm d; (focus ((repeat (first | exact .h _ | refine .t _ _ ?_)); done)); (focus (simp only [SEM]; rfl)); (focus rfl)) | (focus (apply rw_fld d; (focus ((repeat (first | exact .h _ | refine .t _ _ ?_)); done)); (focus exact fun _ => rfl); (focus rfl); rotate_left; (focus (first | omega | (simp; done) | (simp; omega))))) | (focus (apply rw_el1 d; (focus ((repeat (first | exact .h _ | refine .t _ _ ?_)); done)); (focus exact fun _ => rfl); (focus rfl); rotate_left; (focus (first | omega | (simp; done) | (simp; omega))))) | (focus (apply rw_elN d; (focus ((repeat (first | exact .h _ | refine .t _ _ ?_)); done)); (focus exact fun _ => rfl); rotate_left; (focus (first | omega | (simp; done) | (simp; omega))))) | (focus (apply rw_fld0 d; (focus ((repeat (first | exact .h _ | refine .t _ _ ?_)); done)); (focus exact fun _ => rfl); (focus rfl); rotate_left; (focus (first | omega | (simp; done) | (simp; omega))))) | (focus (apply rw_el10 d; (focus ((repeat (first | exact .h _ | refine .t _ _ ?_)); done)); (focus exact fun _ => rfl); (focus rfl); rotate_left; (focus (first | omega | (simp; done) | (simp; omega))))) | (focus (apply rw_elN0 d; (focus ((repeat (first | exact .h _ | refine .t _ _ ?_)); done)); (focus exact fun _ => rfl); rotate_left; (focus (first | omega | (simp; done) | (simp; omega))))) | refine ch d ?_ | refine ch (D.tail d) ?_ | refine ch (D.tail (D.tail d)) ?_ | refine ch (D.tail (D.tail (D.tail d))) ?_ | refine qe _ (fun w d => max2_ok ⟨rfl, rfl⟩) ?_ | refine qe _ (fun w d => min2_ok ⟨rfl, rfl⟩) ?_ | refine max2_ok ?_ | refine min2_ok ?_ | refine bsl3 rfl rfl rfl d fun bn w d => ?_ | refine qe_op (fun _ _ => BinI_quo rfl) ?_ | refine qe_op (fun _ _ => BinI_rem rfl) ?_ | refine qe_op (fun _ _ => BinI_or) ?_ | refine qe_op (fun _ _ => BinI_and) ?_ | refine qe_op (fun _ _ => BinI_andNot) ?_ | refine qe_op (fun _ _ => BinI_shl) ?_ | refine qe_op (fun _ _ => BinI_shr) ?_)
  exact k w (D.tail (D.swap (Vs.mk (L := cel bi 3 [.int .i64 id] :: L) d)))
end
end Go.Proofs.Ytgkbbihaaichbaa

set_option maxRecDepth 100000
set_option maxHeartbeats 1600000
namespace Go.Proofs.Ytgkbbihaaichbaa
open Go Go.Jac
/-- What holds while objects end. -/
structure DI (last cap id0 : Int) (M : List Vo) (P : Int → Prop) (F1 : List Fr) (M1 : List Vo) (E : List Int) : Prop where
  vw : VW cap F1 M1
  ei : EI P last M1
  pm : (E ++ M1.map (·.id)).Perm (M.map (·.id))
  dr : ∀ a z, vfind M a = some z → z.dr = true ∨ a = id0 → a ∈ E ∨ ∃ z', vfind M1 a = some z' ∧ z'.dr = true
  kp : ∀ a z', vfind M1 a = some z' → ∃ z, vfind M a = some z ∧ z'.size = z.size ∧ z'.sl = z.sl ∧ (z'.dr = true → z.dr = true ∨ a = id0)
  en : ∀ a ∈ E, a = id0 ∨ ∃ z, vfind M a = some z ∧ z.dr = true
theorem VW.dr {cap : Int} {F : List Fr} {M : List Vo} {id : Int} {y : Vo} (h : VW cap F M) (hy : vfind M id = some y) : VW cap F ({ y with dr := true } :: rmV id M) := by
  have hfind : ∀ a, vfind ({ y with dr := true } :: rmV id M) a = (vfind M a).map fun x => if x.id = id then { x with dr := true } else x := fun a => by
    rw [vfind_upd (y := { y with dr := true }) (vfind_id hy).1]
    split
    · rename_i e
      subst e
      rw [hy]
      simp [(vfind_id hy).1]
    · rename_i e
      cases hz : vfind M a with
      | none => rfl
      | some z =>
        have := (vfind_id hz).1
        simp only [Option.map_some]
        rw [if_neg (by rw [this]; exact e)]
  have key : ∀ x, ∀ {α : Type} (g : Vo → α), (∀ x : Vo, g { x with dr := true } = g x) → g (if x.id = id then { x with dr := true } else x) = g x := fun x α g hg => by
    split
    · exact hg x
    · rfl
  refine h.map hfind (h.nd.upd (x := y) (y := { y with dr := true }) (vfind_id hy).1) (fun x => key x _ fun _ => rfl) (fun x => key x _ fun _ => rfl) (fun x => key x _ fun _ => rfl) (fun a x hx => by rw [key x (fun x => x.size) fun _ => rfl]; exact h.sz x (vfind_id hx).2) (fun x => key x _ fun _ => rfl) (fun x => key x _ fun _ => rfl) h.ok (fun a x hx => ?_) (fun a x hx e e2 => ?_) fun i => ?_
  · rw [key x (fun x => x.pl) fun _ => rfl]; exact h.kn a x hx
  · rw [key x (fun x => x.pl) fun _ => rfl]; exact e2
  · rw [h.ui i, tot_cons, tot_rm h.nd hy]
theorem DI.start {last cap id : Int} {F : List Fr} {M : List Vo} {x : Vo} (h : VW cap F M) (he : EI (fun _ => False) last M) (hx : vfind M id = some x) : DI last cap id M (fun k => k = id) F ({ x with dr := true } :: rmV id M) [] := by
  refine ⟨h.dr hx, he.drop hx, ?_, fun a z hz hd => .inr ?_, fun a z' hz => ?_, fun a ha => by cases ha⟩
  · rw [List.nil_append, List.map_cons]
    have := ((rmv_perm h.nd hx).map (·.id)).symm
    simpa using this
  · by_cases e : a = id
    · exact ⟨{ x with dr := true }, by rw [vfind_upd (y := { x with dr := true }) (vfind_id hx).1, if_pos e], rfl⟩
    · refine ⟨z, by rw [vfind_upd (y := { x with dr := true }) (vfind_id hx).1, if_neg e]; exact hz, ?_⟩
      rcases hd with hd | hd
      · exact hd
      · exact absurd hd e
  · rw [vfind_upd (y := { x with dr := true }) (vfind_id hx).1] at hz
    split at hz
    · rename_i e
      obtain rfl := Option.some.inj hz
      exact ⟨x, by rw [e]; exact hx, rfl, rfl, fun _ => .inr e⟩
    · exact ⟨z', hz, rfl, rfl, fun h => .inl h⟩
end Go.Proofs.Ytgkbbihaaichbaa

set_option maxRecDepth 100000
namespace Go.Proofs.Ytgkbbihaaichbaa
open Go Go.Jac
theorem rmv_idem (M : List Vo) (a : Int) : rmV a (rmV a M) = rmV a M := by
  unfold rmV
  rw [List.filter_filter]
  apply List.filter_congr
  intro x _
  exact Bool.and_self _
theorem rmC_pl {M : List Vo} {id p : Int} {y y2 : Vo} {v : Value} (hy : vfind M id = some y) (hi : y2.id = id) (hp : p ≠ id) : rmC (y2 :: rmV id M) id p v = rmC M id p v := by
  have e1 : rmV id (y2 :: rmV id M) = rmV id M := by
    have : rmV id (y2 :: rmV id M) = rmV id (rmV id M) := by
      show List.filter _ _ = _
      exact List.filter_cons_of_neg (p := fun z : Vo => decide (z.id ≠ id)) (by simp [hi])
    rw [this, rmv_idem]
  unfold Go.Proofs.Ytgkbbihaaichbaa.rmC
  rw [vfind_upd hi, if_neg hp, e1]
theorem rmC_ids {M : List Vo} {id p : Int} {v : Value} (hn : Nv M) (hp : p ≠ id) : ((rmC M id p v).map (·.id)).Perm ((rmV id M).map (·.id)) := by
  unfold Go.Proofs.Ytgkbbihaaichbaa.rmC
  cases hup : vfind M p with
  | none => exact List.Perm.refl _
  | some up =>
    simp only
    have h1 : vfind (rmV id M) p = some up := by rw [vfind_rm, if_neg (fun h => hp h.symm)]; exact hup
    have := ((rmv_perm (hn.rm id) h1).map (·.id)).symm
    simpa using this
theorem DI.step {last cap id0 cid : Int} {M M1 : List Vo} {F1 F2 : List Fr} {E : List Int} {y : Vo} {v : Value} (h : DI last cap id0 M (fun k => k = cid) F1 M1 E) (hy : vfind M1 cid = some y) (hyd : y.dr = true) (hc : y.ch = []) (hv : VW cap F2 ({ y with pl := [] } :: rmV cid M1)) :
    DI last cap id0 M (fun k => k = y.parent) F2 (rmC M1 cid y.parent v) (E ++ [cid]) := by
  have hne : y.parent ≠ cid := by have := (h.ei.par cid y hy).1; omega
  have hyi := (vfind_id hy).1
  have hnp : ∀ a z, vfind M1 a = some z → z.parent ≠ cid := fun a z hz e => by
    have := (h.ei.ch cid y hy a).2 ⟨z, hz, e⟩
    rw [hc] at this; cases this
  refine ⟨?_, ?_, ?_, fun a z hz hd => ?_, fun a z' hz => ?_, fun a ha => ?_⟩
  · have h1 := hv.rmC (id := cid) (p := y.parent) (v := v) (x := { y with pl := [] }) (by rw [vfind_upd (y := { y with pl := [] }) hyi, if_pos rfl]) rfl (fun a z hz => ?_) hne
    · rwa [rmC_pl hy (y2 := { y with pl := [] }) hyi hne] at h1
    · rw [vfind_upd (y := { y with pl := [] }) hyi] at hz
      split at hz
      · obtain rfl := Option.some.inj hz; exact hne
      · exact hnp a z hz
  · have h1 := h.ei.rm (v := v) hy hc
    refine ⟨h1.ids, h1.ch, h1.chn, h1.par, fun a z hz hd hh => ?_⟩
    rcases h1.dr a z hz hd hh with ⟨e1, e2⟩ | e
    · exact absurd e2 e1
    · exact e
  · have h1 := (rmC_ids (v := v) h.vw.nd hne)
    have h2 := (rmv_perm h.vw.nd hy).map (·.id)
    rw [List.map_cons, hyi] at h2
    have h3 : (E ++ M1.map (·.id)).Perm (E ++ (cid :: (rmC M1 cid y.parent v).map (·.id))) := List.Perm.append_left E (h2.trans (List.Perm.cons cid h1.symm))
    have h4 := h3.symm.trans h.pm
    rw [List.append_assoc]
    exact h4
  · rcases h.dr a z hz hd with e | ⟨z', h1, h2⟩
    · exact .inl (List.mem_append_left _ e)
    · by_cases e : a = cid
      · exact .inl (by rw [e]; simp)
      · refine .inr ?_
        unfold Go.Proofs.Ytgkbbihaaichbaa.rmC
        cases hup : vfind M1 y.parent with
        | none => exact ⟨z', by rw [vfind_rm, if_neg (fun h => e h.symm)]; exact h1, h2⟩
        | some up =>
          simp only
          have hui := (vfind_id hup).1
          rw [vfind_upd (y := { up with cv := v, ch := up.ch.filter fun k => decide (k ≠ cid) }) hui]
          split
          · rename_i e2
            rw [e2, hup] at h1
            obtain rfl := Option.some.inj h1
            exact ⟨_, rfl, h2⟩
          · exact ⟨z', by rw [vfind_rm, if_neg (fun h => e h.symm)]; exact h1, h2⟩
  · unfold Go.Proofs.Ytgkbbihaaichbaa.rmC at hz
    have rm1 : vfind (rmV cid M1) a = some z' → vfind M1 a = some z' := fun h => by
      rw [vfind_rm] at h
      split at h
      · cases h
      · exact h
    cases hup : vfind M1 y.parent with
    | none => rw [hup] at hz; exact h.kp a z' (rm1 hz)
    | some up =>
      rw [hup] at hz
      simp only at hz
      rw [vfind_upd (y := { up with cv := v, ch := up.ch.filter fun k => decide (k ≠ cid) }) (vfind_id hup).1] at hz
      split at hz
      · rename_i e
        obtain rfl := Option.some.inj hz
        exact h.kp a up (by rw [e]; exact hup)
      · exact h.kp a z' (rm1 hz)
  · rcases List.mem_append.1 ha with ha | ha
    · exact h.en a ha
    · obtain rfl := List.mem_singleton.1 ha
      obtain ⟨z, hz, _, _, h4⟩ := h.kp a y hy
      rcases h4 hyd with h4 | h4
      · exact .inr ⟨z, hz, h4⟩
      · exact .inl h4
/-- No further. -/
theorem DI.stop {last cap id0 : Int} {M M1 : List Vo} {P : Int → Prop} {F1 : List Fr} {E : List Int} (h : DI last cap id0 M P F1 M1 E) (hp : ∀ a z, vfind M1 a = some z → P a → z.dr = true → z.ch ≠ []) : DI last cap id0 M (fun _ => False) F1 M1 E :=
  ⟨h.vw, ⟨h.ei.ids, h.ei.ch, h.ei.chn, h.ei.par, fun a z hz hd hc => hp a z hz (h.ei.dr a z hz hd hc) hd hc⟩, h.pm, h.dr, h.kp, h.en⟩
/-- All its pages are taken away. -/
theorem VW.clear {cap : Int} {F1 F2 : List Fr} {M1 : List Vo} {cid : Int} {y : Vo} {pl2 : PL} (h : VW cap F1 M1) (hy : vfind M1 cid = some y) (hf : y.hasf = true) (rg : RG (tot (rmV cid M1)) cap F1 y.pl (fun _ => True) F2 pl2) : pl2 = [] ∧ VW cap F2 ({ y with pl := [] } :: rmV cid M1) := by
  have e : pl2 = [] := by
    cases pl2 with
    | nil => rfl
    | cons e r =>
      have := rg.gone e.1 trivial
      rw [look_cons, if_pos rfl] at this
      cases this
  subst e
  exact ⟨rfl, h.pl (pl := []) hy hf rg.ok rg.kn rg.ui⟩
end Go.Proofs.Ytgkbbihaaichbaa

set_option maxRecDepth 100000
set_option maxHeartbeats 800000
namespace Go.Proofs.Ytgkbbihaaichbaa
open Go Go.Jac
section
variable {w0 w : World} {L : List HP} {K : Value → WP}
theorem srange_nil {t kt et : TypeId} (ht : pg.underlying t = some (.map kt et)) (d : D w0 L w) (k : ∀ r w', D w0 (pts r (.mapIter none 0 #[] 0) :: L) w' → K (.pointer (some ⟨r, 0, none⟩)) w') : Ex pg (Instr.range t (.map none)) K w := by
  refine ⟨_, _, run_range_nilMap (P := pg) w t kt et ht, k _ _ ⟨?_, d.2.trans (Kp.alloc _ _)⟩⟩
  rw [hw_alloc]
  exact Sat.new (hw_none w) d.1
theorem snext_nil {r : Nat} (d : D w0 (pts r (.mapIter none 0 #[] 0) :: L) w) (k : K (.tuple #[.bool false]) w) : Ex pg (Instr.next (.pointer (some ⟨r, 0, none⟩)) false 0) K w := by
  have g : w.heap[r]? = some (.mapIter none 0 #[] 0) := d.1.get
  refine ⟨_, w, ?_, k⟩
  simp only [Instr.next, getObj, Sem.run_bind, Sem.run, g, Result.andThen]
  rfl
theorem AppSeq_nil {c : Nat} (d : D w0 (cel c 58 [.map none] :: L) w)
    (k : ∀ w', D w0 L w' → K (.slice none 0 0) w') :
    Cl pg 87 #[.slice none 0 0, .func (.func 65) #[] #[.pointer (some ⟨c, 0, none⟩)]] K w := by
  refine V.slices_AppendSeq_int_int_ok ?_
  unfold V.slices_AppendSeq_int_int
  simp only [cells_sl]
  refine d_new _ d fun bo w d => ?_
  refine d_rf0 (fun _ _ => rfl) d fun dm l r0 w hr hp hro d => ?_
  refine V.maps_Keys_c1_map_int_int_int_int_ok ?_
  unfold V.maps_Keys_c1_map_int_int_int_int
  repeat (first | refine drw d fun w d => ?_ | (simp +decide only [SEM]) | (apply ldm d; (focus ((repeat (first | exact .h _ | refine .t _ _ ?_)); done)); (focus rfl)) | (apply lam d; (focus ((repeat (first | exact .h _ | refine .t _ _ ?_)); done)); (focus rfl)) | (((repeat (refine bld_c rfl rfl (by simp) ?_; simp only [List.set_cons_zero, List.set_cons_succ])); refine bld_n ?_)) | (refine d_new _ d fun bn w d => ?_) | refine bsl1 (by first | rfl | (simp only [cells_agg, cells_int, cells_bool, cells_ptr, cells_sl, cells_map, cells_fn, List.drop_succ_cons, List.drop_zero, List.take_succ_cons, List.take_zero, Nat.zero_add, Nat.reduceAdd, Int.toNat_natCast, Int.toNat_zero]; rfl)) rfl d (by decide) (by decide) fun bn w d => ?_ | refine bsl2 rfl rfl d fun bn w d => ?_ | refine bsl0 d fun bn w d => ?_ | refine qt d ?_ | refine qe_nil ?_ | refine qe_fa ?_ | refine qe_len ?_ | (apply qlm; (focus ((repeat (first | exact .h _ | refine .t _ _ ?_)); done)); (focus rfl)) | (apply qam; (focus ((repeat (first | exact .h _ | refine .t _ _ ?_)); done)); (focus rfl)) | refine qe _ (fun w d => by ((repeat (refine bld_c rfl rfl (by simp) ?_; simp only [List.set_cons_zero, List.set_cons_succ])); refine bld_n ?_); exact ⟨rfl, rfl⟩) ?_ | refine qe_ext rfl ?_ | refine qe_op (fun _ _ => BinI_add) ?_ | refine qe_op (fun _ _ => BinI_sub) ?_ | refine qe_op (fun _ _ => BinI_mul) ?_ | refine qe_op (fun _ _ => BinI_eql) ?_ | refine qe_op (fun _ _ => BinI_neq) ?_ | refine qe_op (fun _ _ => BinI_lss) ?_ | refine qe_op (fun _ _ => BinI_leq) ?_ | refine qe_op (fun _ _ => BinI_gtr) ?_ | refine qe_op (fun _ _ => BinI_geq) ?_ | refine qe_op (fun _ _ => Un_not _) ?_ | refine qia (by first | omega | (simp; omega)) ?_ | refine qia0 (by first | omega | (simp; omega)) ?_ | (focus (apply qln; (focus ((repeat (first | exact .h _ | refine .t _ _ ?_)); done)); (focus exact fun _ => rfl); rotate_left; (focus (first | omega | (simp; done) | (simp; omega))))) | (focus (apply ql1; (focus ((repeat (first | exact .h _ | refine .t _ _ ?_)); done)); (focus exact fun _ => rfl); (focus rfl); rotate_left; (focus (first | omega | (simp; done) | (simp; omega))))) | (focus (apply ql0; (focus ((repeat (first | exact .h _ | refine .t _ _ ?_)); done)); (focus exact fun _ => rfl); (focus rfl); rotate_left; (focus (first | omega | (simp; done) | (simp; omega))))) | (apply swm d; (focus ((repeat (first | exact .h _ | apply Rp.t)); done)); (focus rfl); (focus rfl); (focus exact ones rfl); intro w d; simp only [SPL] at d) | (apply stm d; (focus ((repeat (first | exact .h _ | apply Rp.t)); done)); (focus rfl); (focus simp); (focus exact ones rfl); intro w d; simp only [SPL] at d) | (apply lpm d; (focus ((repeat (first | exact .h _ | refine .t _ _ ?_)); done)); (focus (simp only [SEM]; rfl)); (focus rfl)) | (focus (apply rw_fld d; (focus ((repeat (first | exact .h _ | refine .t _ _ ?_)); done)); (focus exact fun _ => rfl); (focus rfl); rotate_left; (focus (first | omega | (simp; done) | (simp; omega))))) | (focus (apply rw_el1 d; (focus ((repeat (first | exact .h _ | refine .t _ _ ?_)); done)); (focus exact fun _ => rfl); (focus rfl); rotate_left; (focus (first | omega | (simp; done) | (simp; omega))))) | (focus (apply rw_elN d; (focus ((repeat (first | exact .h _ | refine .t _ _ ?_)); done)); (focus exact fun _ => rfl); rotate_left; (focus (first | omega | (simp; done) | (simp; omega))))) | (focus (apply rw_fld0 d; (focus ((repeat (first | exact .h _ | refine .t _ _ ?_)); done)); (focus exact fun _ => rfl); (focus rfl); rotate_left; (focus (first | omega | (simp; done) | (simp; omega))))) | (focus (apply rw_el10 d; (focus ((repeat (first | exact .h _ | refine .t _ _ ?_)); done)); (focus exact fun _ => rfl); (focus rfl); rotate_left; (focus (first | omega | (simp; done) | (simp; omega))))) | (focus (apply rw_elN0 d; (focus ((repeat (first | exact .h _ | refine .t _ _ ?_)); done)); (focus exact fun _ => rfl); rotate_left; (focus (first | omega | (simp; done) | (simp; omega))))) | refine ch d ?_ | refine ch (D.tail d) ?_ | refine ch (D.tail (D.tail d)) ?_ | refine ch (D.tail (D.tail (D.tail d))) ?_ | refine qe _ (fun w d => max2_ok ⟨rfl, rfl⟩) ?_ | refine qe _ (fun w d => min2_ok ⟨rfl, rfl⟩) ?_ | refine max2_ok ?_ | refine min2_ok ?_ | refine bsl3 rfl rfl rfl d fun bn w d => ?_ | refine qe_op (fun _ _ => BinI_quo rfl) ?_ | refine qe_op (fun _ _ => BinI_rem rfl) ?_ | refine qe_op (fun _ _ => BinI_or) ?_ | refine qe_op (fun _ _ => BinI_and) ?_ | refine qe_op (fun _ _ => BinI_andNot) ?_ | refine qe_op (fun _ _ => BinI_shl) ?_ | refine qe_op (fun _ _ => BinI_shr) ?_)
  refine srange_nil Try.underlying58 d fun r w d => ?_
  refine ⟨fun vs w' => vs = [] ∧ D w0 _ w', fun _ _ => 0, ⟨rfl, d⟩, ?_⟩
  clear d
  rintro _ w ⟨rfl, d⟩ _
  refine snext_nil d ?_
  rw [Ext_10]
  repeat (first | refine drw d fun w d => ?_ | (simp +decide only [SEM]) | (apply ldm d; (focus ((repeat (first | exact .h _ | refine .t _ _ ?_)); done)); (focus rfl)) | (apply lam d; (focus ((repeat (first | exact .h _ | refine .t _ _ ?_)); done)); (focus rfl)) | (((repeat (refine bld_c rfl rfl (by simp) ?_; simp only [List.set_cons_zero, List.set_cons_succ])); refine bld_n ?_)) | (refine d_new _ d fun bn w d => ?_) | refine bsl1 (by first | rfl | (simp only [cells_agg, cells_int, cells_bool, cells_ptr, cells_sl, cells_map, cells_fn, List.drop_succ_cons, List.drop_zero, List.take_succ_cons, List.take_zero, Nat.zero_add, Nat.reduceAdd, Int.toNat_natCast, Int.toNat_zero]; rfl)) rfl d (by decide) (by decide) fun bn w d => ?_ | refine bsl2 rfl rfl d fun bn w d => ?_ | refine bsl0 d fun bn w d => ?_ | refine qt d ?_ | refine qe_nil ?_ | refine qe_fa ?_ | refine qe_len ?_ | (apply qlm; (focus ((repeat (first | exact .h _ | refine .t _ _ ?_)); done)); (focus rfl)) | (apply qam; (focus ((repeat (first | exact .h _ | refine .t _ _ ?_)); done)); (focus rfl)) | refine qe _ (fun w d => by ((repeat (refine bld_c rfl rfl (by simp) ?_; simp only [List.set_cons_zero, List.set_cons_succ])); refine bld_n ?_); exact ⟨rfl, rfl⟩) ?_ | refine qe_ext rfl ?_ | refine qe_op (fun _ _ => BinI_add) ?_ | refine qe_op (fun _ _ => BinI_sub) ?_ | refine qe_op (fun _ _ => BinI_mul) ?_ | refine qe_op (fun _ _ => BinI_eql) ?_ | refine qe_op (fun _ _ => BinI_neq) ?_ | refine qe_op (fun _ _ => BinI_lss) ?_ | refine qe_op (fun _ _ => BinI_leq) ?_ | refine qe_op (fun _ _ => BinI_gtr) ?_ | refine qe_op (fun _ _ => BinI_geq) ?_ | refine qe_op (fun _ _ => Un_not _) ?_ | refine qia (by first | omega | (simp; omega)) ?_ | refine qia0 (by first | omega | (simp; omega)) ?_ | (focus (apply qln; (focus ((repeat (first | exact .h _ | refine .t _ _ ?_)); done)); (focus exact fun _ => rfl); rotate_left; (focus (first | omega | (simp; done) | (simp; omega))))) | (focus (apply ql1; (focus ((repeat (first | exact .h _ | refine .t _ _ ?_)); done)); (focus exact fun _ => rfl); (focus rfl); rotate_left; (focus (first | omega | (simp; done) | (simp; omega))))) | (focus (apply ql0; (focus ((repeat (first | exact .h _ | refine .t _ _ ?_)); done)); (focus exact fun _ => rfl); (focus rfl); rotate_left; (focus (first | omega | (simp; done) | (simp; omega))))) | (apply swm d; (focus ((repeat (first | exact .h _ | apply Rp.t)); done)); (focus rfl); (focus rfl); (focus exact ones rfl); intro w d; simp only [SPL] at d) | (apply stm d; (focus ((repeat (first | exact .h _ | apply Rp.t)); done)); (focus rfl); (focus simp); (focus exact ones rfl); intro w d; simp only [SPL] at d) | (apply lpm d; (focus ((repeat (first | exact .h _ | refine .t _ _ ?_)); done)); (focus (simp only [SEM]; rfl)); (focus rfl)) | (focus (apply rw_fld d; (focus ((repeat (first | exact .h _ | refine .t _ _ ?_)); done)); (focus exact fun _ => rfl); (focus rfl); rotate_left; (focus (first | omega | (simp; done) | (simp; omega))))) | (focus (apply rw_el1 d; (focus ((repeat (first | exact .h _ | refine .t _ _ ?_)); done)); (focus exact fun _ => rfl); (focus rfl); rotate_left; (focus (first | omega | (simp; done) | (simp; omega))))) | (focus (apply rw_elN d; (focus ((repeat (first | exact .h _ | refine .t _ _ ?_)); done)); (focus exact fun _ => rfl); rotate_left; (focus (first | omega | (simp; done) | (simp; omega))))) | (focus (apply rw_fld0 d; (focus ((repeat (first | exact .h _ | refine .t _ _ ?_)); done)); (focus exact fun _ => rfl); (focus rfl); rotate_left; (focus (first | omega | (simp; done) | (simp; omega))))) | (focus (apply rw_el10 d; (focus ((repeat (first | exact .h _ | refine .t _ _ ?_)); done)); (focus exact fun _ => rfl); (focus rfl); rotate_left; (focus (first | omega | (simp; done) | (simp; omega))))) | (focus (apply rw_elN0 d; (focus ((repeat (first | exact .h _ | refine .t _ _ ?_)); done)); (focus exact fun _ => rfl); rotate_left; (focus (first | omega | (simp; done) | (simp; omega))))) | refine ch d ?_ | refine ch (D.tail d) ?_ | refine ch (D.tail (D.tail d)) ?_ | refine ch (D.tail (D.tail (D.tail d))) ?_ | refine qe _ (fun w d => max2_ok ⟨rfl, rfl⟩) ?_ | refine qe _ (fun w d => min2_ok ⟨rfl, rfl⟩) ?_ | refine max2_ok ?_ | refine min2_ok ?_ | refine bsl3 rfl rfl rfl d fun bn w d => ?_ | refine qe_op (fun _ _ => BinI_quo rfl) ?_ | refine qe_op (fun _ _ => BinI_rem rfl) ?_ | refine qe_op (fun _ _ => BinI_or) ?_ | refine qe_op (fun _ _ => BinI_and) ?_ | refine qe_op (fun _ _ => BinI_andNot) ?_ | refine qe_op (fun _ _ => BinI_shl) ?_ | refine qe_op (fun _ _ => BinI_shr) ?_)
  refine ⟨r0, _, D.sel [1] d, sameLp.refl r0, by rw [hr]; simp, fun w d => ?_⟩
  rw [hp]
  simp only [JumpC]
  repeat (first | refine drw d fun w d => ?_ | (simp +decide only [SEM]) | (apply ldm d; (focus ((repeat (first | exact .h _ | refine .t _ _ ?_)); done)); (focus rfl)) | (apply lam d; (focus ((repeat (first | exact .h _ | refine .t _ _ ?_)); done)); (focus rfl)) | (((repeat (refine bld_c rfl rfl (by simp) ?_; simp only [List.set_cons_zero, List.set_cons_succ])); refine bld_n ?_)) | (refine d_new _ d fun bn w d => ?_) | refine bsl1 (by first | rfl | (simp only [cells_agg, cells_int, cells_bool, cells_ptr, cells_sl, cells_map, cells_fn, List.drop_succ_cons, List.drop_zero, List.take_succ_cons, List.take_zero, Nat.zero_add, Nat.reduceAdd, Int.toNat_natCast, Int.toNat_zero]; rfl)) rfl d (by decide) (by decide) fun bn w d => ?_ | refine bsl2 rfl rfl d fun bn w d => ?_ | refine bsl0 d fun bn w d => ?_ | refine qt d ?_ | refine qe_nil ?_ | refine qe_fa ?_ | refine qe_len ?_ | (apply qlm; (focus ((repeat (first | exact .h _ | refine .t _ _ ?_)); done)); (focus rfl)) | (apply qam; (focus ((repeat (first | exact .h _ | refine .t _ _ ?_)); done)); (focus rfl)) | refine qe _ (fun w d => by ((repeat (refine bld_c rfl rfl (by simp) ?_; simp only [List.set_cons_zero, List.set_cons_succ])); refine bld_n ?_); exact ⟨rfl, rfl⟩) ?_ | refine qe_ext rfl ?_ | refine qe_op (fun _ _ => BinI_add) ?_ | refine qe_op (fun _ _ => BinI_sub) ?_ | refine qe_op (fun _ _ => BinI_mul) ?_ | refine qe_op (fun _ _ => BinI_eql) ?_ | refine qe_op (fun _ _ => BinI_neq) ?_ | refine qe_op (fun _ _ => BinI_lss) ?_ | refine qe_op (fun _ _ => BinI_leq) ?_ | refine qe_op (fun _ _ => BinI_gtr) ?_ | refine qe_op (fun _ _ => BinI_geq) ?_ | refine qe_op (fun _ _ => Un_not _) ?_ | refine qia (by first | omega | (simp; omega)) ?_ | refine qia0 (by first | omega | (simp; omega)) ?_ | (focus (apply qln; (focus ((repeat (first | exact .h _ | refine .t _ _ ?_)); done)); (focus exact fun _ => rfl); rotate_left; (focus (first | omega | (simp; done) | (simp; omega))))) | (focus (apply ql1; (focus ((repeat (first | exact .h _ | refine .t _ _ ?_)); done)); (focus exact fun _ => rfl); (focus rfl); rotate_left; (focus (first | omega | (simp; done) | (simp; omega))))) | (focus (apply ql0; (focus ((repeat (first | exact .h _ | refine .t _ _ ?_)); done)); (focus exact fun _ => rfl); (focus rfl); rotate_left; (focus (first | omega | (simp; done) | (simp; omega))))) | (apply swm d; (focus ((repeat (first | exact .h _ | apply Rp.t)); done)); (focus rfl); (focus rfl); (focus exact ones rfl); intro w d; simp only [SPL] at d) | (apply stm d; (focus ((repeat (first | exact .h _ | apply Rp.t)); done)); (focus rfl); (focus simp); (focus exact ones rfl); intro w d; simp only [SPL] at d) | (apply lpm d; (focus ((repeat (first | exact .h _ | refine .t _ _ ?_)); done)); (focus (simp only [SEM]; rfl)); (focus rfl)) | (focus (apply rw_fld d; (focus ((repeat (first | exact .h _ | refine .t _ _ ?_)); done)); (focus exact fun _ => rfl); (focus rfl); rotate_left; (focus (first | omega | (simp; done) | (simp; omega))))) | (focus (apply rw_el1 d; (focus ((repeat (first | exact .h _ | refine .t _ _ ?_)); done)); (focus exact fun _ => rfl); (focus rfl); rotate_left; (focus (first | omega | (simp; done) | (simp; omega))))) | (focus (apply rw_elN d; (focus ((repeat (first | exact .h _ | refine .t _ _ ?_)); done)); (focus exact fun _ => rfl); rotate_left; (focus (first | omega | (simp; done) | (simp; omega))))) | (focus (apply rw_fld0 d; (focus ((repeat (first | exact .h _ | refine .t _ _ ?_)); done)); (focus exact fun _ => rfl); (focus rfl); rotate_left; (focus (first | omega | (simp; done) | (simp; omega))))) | (focus (apply rw_el10 d; (focus ((repeat (first | exact .h _ | refine .t _ _ ?_)); done)); (focus exact fun _ => rfl); (focus rfl); rotate_left; (focus (first | omega | (simp; done) | (simp; omega))))) | (focus (apply rw_elN0 d; (focus ((repeat (first | exact .h _ | refine .t _ _ ?_)); done)); (focus exact fun _ => rfl); rotate_left; (focus (first | omega | (simp; done) | (simp; omega))))) | refine ch d ?_ | refine ch (D.tail d) ?_ | refine ch (D.tail (D.tail d)) ?_ | refine ch (D.tail (D.tail (D.tail d))) ?_ | refine qe _ (fun w d => max2_ok ⟨rfl, rfl⟩) ?_ | refine qe _ (fun w d => min2_ok ⟨rfl, rfl⟩) ?_ | refine max2_ok ?_ | refine min2_ok ?_ | refine bsl3 rfl rfl rfl d fun bn w d => ?_ | refine qe_op (fun _ _ => BinI_quo rfl) ?_ | refine qe_op (fun _ _ => BinI_rem rfl) ?_ | refine qe_op (fun _ _ => BinI_or) ?_ | refine qe_op (fun _ _ => BinI_and) ?_ | refine qe_op (fun _ _ => BinI_andNot) ?_ | refine qe_op (fun _ _ => BinI_shl) ?_ | refine qe_op (fun _ _ => BinI_shr) ?_)
  refine d_lv1 (D.sel [1] d) fun w d => ?_
  exact k w (by first | exact d.tail.tail.tail | exact d.tail.tail.tail.tail)
theorem Sorted_nil {c : Nat} (d : D w0 (cel c 58 [.map none] :: L) w) (k : ∀ w', D w0 L w' → K (.slice none 0 0) w') :
    Cl pg 36 #[.func (.func 65) #[] #[.pointer (some ⟨c, 0, none⟩)]] K w := by
  refine V.slices_Sorted_int_ok ?_
  unfold V.slices_Sorted_int
  refine fn10 (fun _ _ => rfl) (V.slices_Collect_int_ok ?_)
  unfold V.slices_Collect_int
  refine fn20 (fun _ _ => rfl) (AppSeq_nil d fun w d => ?_)
  have d0 : D w0 (Rw 3 1 (.slice none 0 0) (List.length ([] : List Int)) (([] : List Int).flatMap nI) :: L) w := ⟨Rw.nil _ _ d.1, d.2⟩
  refine fn10 (fun _ _ => rfl) (isort_k (K := fun _ w => K (.slice none 0 0) w) iLay (by simp) d0 fun w d => ?_)
  exact k w d.tail
end
end Go.Proofs.Ytgkbbihaaichbaa

set_option maxRecDepth 100000
namespace Go.Proofs.Ytgkbbihaaichbaa
open Go Go.Jac
/-- The sum of the first n counts. -/
def csum (g : Nat → Nat) : Nat → Nat
  | 0 => 0
  | n + 1 => csum g n + g n
theorem csum_le {g : Nat → Nat} {B : Nat} : ∀ n, (∀ i, i < n → g i ≤ B) → csum g n ≤ n * B
  | 0, _ => by simp [csum]
  | n + 1, h => by
    have h1 := csum_le n fun i hi => h i (by omega)
    have h2 := h n (by omega)
    have h3 : (n + 1) * B = n * B + B := Nat.succ_mul n B
    show csum g n + g n ≤ _
    omega
theorem csum_add (g k : Nat → Nat) : ∀ n, csum (fun i => g i + k i) n = csum g n + csum k n
  | 0 => rfl
  | n + 1 => by
    show csum (fun i => g i + k i) n + (g n + k n) = (csum g n + g n) + (csum k n + k n)
    rw [csum_add g k n]; omega
theorem csum_one {a : Nat} : ∀ n, csum (fun i => if a = i then 1 else 0) n = if a < n then 1 else 0
  | 0 => by simp [csum]
  | n + 1 => by
    show csum (fun i => if a = i then 1 else 0) n + (if a = n then 1 else 0) = _
    rw [csum_one n]
    split <;> split <;> split <;> omega
theorem csum_congr {g k : Nat → Nat} (h : ∀ i, g i = k i) (n : Nat) : csum g n = csum k n := by
  rw [show g = k from funext h]
theorem csum_zero : ∀ n, csum (fun _ => 0) n = 0
  | 0 => rfl
  | n + 1 => by show csum _ n + 0 = 0; rw [csum_zero n]
theorem csum_cnt {n : Nat} : ∀ pl : PL, (∀ e ∈ pl, e.2 < n) → csum (fun i => cnt pl i) n = pl.length
  | [], _ => by
    rw [csum_congr (k := fun _ => 0) (fun i => by simp [cnt])]
    exact csum_zero n
  | e :: r, h => by
    rw [csum_congr (k := fun i => (if e.2 = i then 1 else 0) + cnt r i) (fun i => by rw [cnt_cons]; exact Nat.add_comm _ _), csum_add, csum_one, csum_cnt r fun e he => h e (List.mem_cons_of_mem _ he), if_pos (h e List.mem_cons_self), List.length_cons]
    omega
theorem VW.plen {cap : Int} {F : List Fr} {M : List Vo} {id : Int} {x : Vo} (h : VW cap F M) (hx : vfind M id = some x) : x.pl.length ≤ 65536000000 := by
  have h1 := h.uiR hx
  have hlt : ∀ f, cnt x.pl f ≠ 0 → f < F.length := fun f hf => by
    have := h1 f
    exact fr_lt (F := F) (i := f) (by omega)
  have h2 : ∀ e ∈ x.pl, e.2 < F.length := fun e he => by
    refine hlt e.2 ?_
    unfold cnt
    have : 0 < x.pl.countP fun e' => e'.2 == e.2 := List.countP_pos_iff.2 ⟨e, he, by simp⟩
    omega
  rw [← csum_cnt x.pl h2]
  have h3 : csum (fun i => cnt x.pl i) F.length ≤ F.length * 1000000 := csum_le _ fun i hi => by
    have e := h1 i
    have := h.ok.us _ (List.getElem_mem hi)
    rw [← fr_get hi] at this
    omega
  have h4 := h.ok.len
  have h5 := h.ok.mo
  have h6 : F.length ≤ 65536 := by omega
  have h7 : F.length * 1000000 ≤ 65536 * 1000000 := Nat.mul_le_mul_right _ h6
  omega
end Go.Proofs.Ytgkbbihaaichbaa

set_option maxRecDepth 100000
set_option maxHeartbeats 800000
namespace Go.Proofs.Ytgkbbihaaichbaa
open Go Go.Jac
section
variable {w0 w : World} {L : List HP} {K : Value → WP} {b : Nat} {last most cap : Int} {F : List Fr} {M : List Vo} {x : Vo}
theorem VDrop_ok {id : Int} (h : VW cap F M) (he : EI (fun _ => False) last M) (hx : live M id = some x) (hM : M.length ≤ 100000) (d : D w0 (Vs b last most cap F M :: L) w)
    (k : ∀ F' M' E sv w', DI last cap id M (fun _ => False) F' M' E → D w0 (Rw 3 1 sv E.length (E.flatMap nc) :: Vs b last most cap F' M' :: L) w' → K (.tuple #[sv, .int .i64 0]) w') :
    Cl pg 20 #[.pointer (some ⟨b, 0, none⟩), .int .i64 id] K w := by
  refine V.vmo_Set_Drop_ok ?_
  unfold V.vmo_Set_Drop
  simp only [cells_int]
  refine d_new _ d fun bi w d => ?_
  have d := d.swap
  obtain ⟨m, pb, d⟩ := Vs.out d
  have hxl := live_some hx
  have hDI := DI.start (id := id) h he hxl.1
  repeat (apply ldm d; (focus ((repeat (first | exact .h _ | refine .t _ _ ?_)); done)); (focus rfl))
  refine fn20 (fun _ _ => rfl) (vfind_ok h.nd d (fun hno w d => by rw [hno] at hx; cases hx) fun x' hx' w d => ?_)
  rw [hx] at hx'
  obtain rfl := Option.some.inj hx'
  have d : D w0 (cel x.blk 60 [.int .i64 x.size, .int .i64 x.parent, fmv x, x.cv, .bool x.sl, .int .i64 x.from_, .int .i64 x.depth, .bool x.dr] :: Rw 3 1 x.cv x.ch.length (x.ch.flatMap nc) :: fmp x :: sat ((rmV id M).map vob) :: cel b 55 [.pointer (some ⟨pb, 0, none⟩), .map (some m), .int .i64 most, .int .i64 last] :: Pl pb cap F :: Mp m (vmap M) M.length :: cel bi 3 [.int .i64 id] :: L) w := vone_out h.nd hxl.1 (D.sel [3] d)
  repeat (first | (simp +decide only [SEM]) | (apply stm d; (focus ((repeat (first | exact .h _ | apply Rp.t)); done)); (focus rfl); (focus simp); (focus exact ones rfl); intro w d; simp only [SPL] at d))
  have d := vone_in (y := { x with dr := true }) (R := rmV id M) d
  have e5 := vmap_set (y := { x with dr := true }) hxl.1 (vfind_id hxl.1).1 rfl
  have e6 := setv_len (y := { x with dr := true }) h.nd hxl.1
  have hy0 : vfind ({ x with dr := true } :: rmV id M) id = some { x with dr := true } := by rw [vfind_upd (y := { x with dr := true }) (vfind_id hxl.1).1, if_pos rfl]
  rw [← e5, ← e6] at d
  generalize { x with dr := true } :: rmV id M = M1 at *
  have d0 : D w0 (Rw 3 1 (.slice none 0 0) (List.length ([] : List Int)) (([] : List Int).flatMap nc) :: _) w := ⟨Rw.nil _ _ d.1, d.2⟩
  refine ⟨fun vs w' => ∃ (E : List Int) (sv : Value) (F1 : List Fr) (M1 : List Vo) (cv : Int) (pv : Value) (P : Int → Prop), vs = [sv, pv] ∧ DI last cap id M P F1 M1 E ∧
      ((pv = .pointer none ∧ ∀ a, ¬ P a) ∨ ∃ y, pv = .pointer (some ⟨y.blk, 0, none⟩) ∧ vfind M1 cv = some y ∧ ∀ a, P a → a = cv) ∧
      D w0 (Rw 3 1 sv E.length (E.flatMap nc) :: sat (M1.map vob) :: cel b 55 [.pointer (some ⟨pb, 0, none⟩), .map (some m), .int .i64 most, .int .i64 last] :: Pl pb cap F1 :: Mp m (vmap M1) M1.length :: cel bi 3 [.int .i64 cv] :: L) w',
    fun vs _ => match vs with | [.slice _ n _, _] => M.length - n | _ => 0, ⟨[], _, F, M1, id, _, _, rfl, hDI, .inr ⟨{ x with dr := true }, rfl, hy0, fun _ h => h⟩, d0⟩, ?_⟩
  clear d d0
  rintro _ w ⟨E, sv, F1, M1, cv, pv, P, rfl, hD, hcur, d⟩ _
  simp only [UN]
  rcases hcur with ⟨rfl, hP⟩ | ⟨y, rfl, hy, hP⟩
  · repeat (simp +decide only [SEM])
    refine k F1 M1 E sv w (hD.stop fun a z hz hp => absurd hp (hP a)) ?_
    exact (D.sel [1, 2, 0] (Vs.mk (m := m) (pb := pb) (L := cel bi 3 [.int .i64 cv] :: Rw 3 1 sv E.length (E.flatMap nc) :: L) (D.sel [2, 3, 4, 1, 5, 0] d))).tail
  · have stop : ∀ w', (y.dr = false ∨ y.ch ≠ []) → D w0 (sat (M1.map vob) :: Rw 3 1 sv E.length (E.flatMap nc) :: cel b 55 [.pointer (some ⟨pb, 0, none⟩), .map (some m), .int .i64 most, .int .i64 last] :: Pl pb cap F1 :: Mp m (vmap M1) M1.length :: cel bi 3 [.int .i64 cv] :: L) w' → K (.tuple #[sv, .int .i64 0]) w' := fun w' hs d => by
      refine k F1 M1 E sv w' (hD.stop fun a z hz hp hd hc => ?_) (D.sel [1, 2, 0] (Vs.mk (m := m) (pb := pb) (L := cel bi 3 [.int .i64 cv] :: Rw 3 1 sv E.length (E.flatMap nc) :: L) (D.sel [2, 3, 4, 0, 5, 1] d))).tail
      rw [hP a hp, hy] at hz
      obtain rfl := Option.some.inj hz
      rcases hs with hs | hs
      · rw [hs] at hd; cases hd
      · exact hs hc
    have hv : vcell y = [.int .i64 y.size, .int .i64 y.parent, fmv y, y.cv, .bool y.sl, .int .i64 y.from_, .int .i64 y.depth, .bool y.dr] := rfl
    have back : ∀ {L' : List HP} w', D w0 (cel y.blk 60 [.int .i64 y.size, .int .i64 y.parent, fmv y, y.cv, .bool y.sl, .int .i64 y.from_, .int .i64 y.depth, .bool y.dr] :: Rw 3 1 y.cv y.ch.length (y.ch.flatMap nc) :: fmp y :: sat ((rmV cv M1).map vob) :: L') w' → D w0 (sat (M1.map vob) :: L') w' := fun w' d' => vone_back hD.vw.nd hy (by rw [hv]; exact d')
    have d : D w0 (cel y.blk 60 [.int .i64 y.size, .int .i64 y.parent, fmv y, y.cv, .bool y.sl, .int .i64 y.from_, .int .i64 y.depth, .bool y.dr] :: Rw 3 1 y.cv y.ch.length (y.ch.flatMap nc) :: fmp y :: sat ((rmV cv M1).map vob) :: Rw 3 1 sv E.length (E.flatMap nc) :: cel b 55 [.pointer (some ⟨pb, 0, none⟩), .map (some m), .int .i64 most, .int .i64 last] :: Pl pb cap F1 :: Mp m (vmap M1) M1.length :: cel bi 3 [.int .i64 cv] :: L) w := vone_out hD.vw.nd hy (D.sel [1] d)
    repeat (first | (simp +decide only [SEM]) | (apply ldm d; (focus ((repeat (first | exact .h _ | refine .t _ _ ?_)); done)); (focus rfl)))
    cases hdr : y.dr with
    | false =>
      rw [hdr] at d back
      repeat (simp +decide only [SEM])
      exact stop w (.inl hdr) (back w d)
    | true =>
    rw [hdr] at d back
    obtain ⟨q, c, hq, -⟩ := Rw.shape d.swap.1
    rw [hq] at d back
    repeat (first | (simp +decide only [SEM]) | (apply ldm d; (focus ((repeat (first | exact .h _ | refine .t _ _ ?_)); done)); (focus rfl)))
    refine ⟨fun hz => ?_, fun hz => stop w (.inr fun e => hz (by rw [e]; rfl)) (back w d)⟩
    have hc : y.ch = [] := List.eq_nil_of_length_eq_zero (by omega)
    obtain ⟨mp, hmp⟩ : ∃ mp, fmv y = .map mp := by
      unfold fmv; split
      · exact ⟨_, rfl⟩
      · exact ⟨_, rfl⟩
    rw [hmp] at d
    clear back stop
    obtain ⟨qs, cs, rfl, -⟩ := Rw.shape (D.sel [4] d).1
    generalize hsv : Value.slice qs E.length cs = sv at d
    have hE : E.length + M1.length = M.length := by have := hD.pm.length_eq; simpa using this
    have hM1 := rmv_len hD.vw.nd hy
    have hhf := (hD.vw.hasf cv y hy).2
    have hne : y.parent ≠ cv := by have := (hD.ei.par cv y hy).1; omega
    have hple := hD.vw.plen hy
    repeat (apply ldm d; (focus ((repeat (first | exact .h _ | refine .t _ _ ?_)); done)); (focus rfl))
    refine fn10 (fun _ _ => rfl) (V.maps_Keys_map_int_int_int_int_ok ?_)
    unfold V.maps_Keys_map_int_int_int_int
    simp only [cells_map]
    refine d_new _ d fun c1 w d => ?_
    refine fn10 (fun _ _ => rfl) (Cl.mono (K := fun v w' => ∃ S : List Int, (y.hasf = false → S = []) ∧ S.length ≤ 65536000000 ∧ (∀ q, q ∈ S ↔ (look y.pl q).isSome = true) ∧
      D w0 (Rw 3 1 v S.length (S.flatMap nI) :: cel y.blk 60 [.int .i64 y.size, .int .i64 y.parent, .map mp, .slice q y.ch.length c, .bool y.sl, .int .i64 y.from_, .int .i64 y.depth, .bool true] :: fmp y :: Rw 3 1 (.slice q y.ch.length c) y.ch.length (y.ch.flatMap nc) :: sat ((rmV cv M1).map vob) :: Rw 3 1 sv E.length (E.flatMap nc) :: cel b 55 [.pointer (some ⟨pb, 0, none⟩), .map (some m), .int .i64 most, .int .i64 last] :: Pl pb cap F1 :: Mp m (vmap M1) M1.length :: cel bi 3 [.int .i64 cv] :: L) w') ?_ fun sv2 w hh => ?_)
    · by_cases hf : y.hasf = true
      · have e1 : mp = some y.fb := by have : fmv y = .map (some y.fb) := by unfold fmv; rw [hf]; rfl
                                       rw [hmp] at this; exact Value.map.inj this
        rw [e1, fmp_f hf] at d
        refine Sorted_ok (Nat.le_trans hple (by decide)) (D.sel [0, 3] d) fun S sv2 w hnd hup hS d => ?_
        have hlen : S.length ≤ 65536000000 := Nat.le_trans (mp_card d.swap hnd fun x hx => (hS x).1 hx) hple
        refine ⟨S, (fun h => by rw [hf] at h; cases h), hlen, fun p => ?_, ?_⟩
        · rw [hS]; unfold fgM; cases look y.pl p <;> rfl
        · rw [e1, fmp_f hf]
          exact D.sel [0, 2, 1] d
      · have hf : y.hasf = false := by simpa using hf
        have e1 : mp = none := by have : fmv y = .map none := by unfold fmv; rw [hf]; rfl
                                  rw [hmp] at this; exact Value.map.inj this
        rw [e1] at d
        refine Sorted_nil d fun w d => ?_
        have hp := hhf hf
        have d0 : D w0 (Rw 3 1 (.slice none 0 0) (List.length ([] : List Int)) (([] : List Int).flatMap nI) :: _) w := ⟨Rw.nil _ _ d.1, d.2⟩
        rw [e1]
        exact ⟨[], fun _ => rfl, by decide, fun p => by rw [hp]; simp [look], D.sel [0, 1, 3, 2] d0⟩
    obtain ⟨S, hS0, hSl, hS, d⟩ := hh
    refine len_rw (D.sel [0] d) ?_
    refine ⟨fun vs w' => ∃ (i : Nat) (F2 : List Fr) (pl2 : PL), vs = [.int .i64 i] ∧ i ≤ S.length ∧ (S = [] → F2 = F1 ∧ pl2 = y.pl) ∧ RG (tot (rmV cv M1)) cap F1 y.pl (fun q => q ∈ S.take i) F2 pl2 ∧ D w0 (cel y.blk 60 [.int .i64 y.size, .int .i64 y.parent, .map mp, .slice q y.ch.length c, .bool y.sl, .int .i64 y.from_, .int .i64 y.depth, .bool true] :: fmp { y with pl := pl2 } :: Pl pb cap F2 :: cel b 55 [.pointer (some ⟨pb, 0, none⟩), .map (some m), .int .i64 most, .int .i64 last] :: Rw 3 1 sv2 S.length (S.flatMap nI) :: Rw 3 1 (.slice q y.ch.length c) y.ch.length (y.ch.flatMap nc) :: sat ((rmV cv M1).map vob) :: Rw 3 1 sv E.length (E.flatMap nc) :: Mp m (vmap M1) M1.length :: cel bi 3 [.int .i64 cv] :: L) w',
      fun vs _ => match vs with | [.int _ i] => S.length - i.toNat | _ => 0, ⟨0, F1, y.pl, rfl, by omega, fun _ => ⟨rfl, rfl⟩, (RG.nil (hD.vw.uiR hy) (hD.vw.kn _ _ hy) hD.vw.ok).to (fun q => by simp), D.sel [1, 2, 7, 6, 0, 3, 4, 5] d⟩, ?_⟩
    clear d
    rintro _ w ⟨i, F2, pl2, rfl, hi, hF0, hri, d⟩ _
    simp only [UN]
    repeat (simp +decide only [SEM])
    refine ⟨fun hlt => ?_, fun hge => ?_⟩
    · have hlt' : i < S.length := by omega
      have hf : y.hasf = true := by
        cases hf : y.hasf with
        | true => rfl
        | false => rw [hS0 hf] at hlt'; simp at hlt'
      have e1 : mp = some y.fb := by have : fmv y = .map (some y.fb) := by unfold fmv; rw [hf]; rfl
                                     rw [hmp] at this; exact Value.map.inj this
      rw [e1, fmp_f (y := { y with pl := pl2 }) hf] at d
      refine rw_el1 (S := S) (f := nI) d (.t _ _ (.t _ _ (.t _ _ (.t _ _ (.h _))))) nI_len hlt' (v := .int .i64 S[i]) rfl ?_
      have e7 : ∀ q, q ∈ S.take (i + 1) ↔ q ∈ S.take i ∨ q = S[i] := fun q => by
        rw [List.take_succ_eq_append_getElem hlt', List.mem_append, List.mem_singleton]
      have hw1 : IntKind.i64.wrap ((i : Int) + 1) = i + 1 := w64 (by omega) (by omega)
      have next : ∀ F2 pl2 w, RG (tot (rmV cv M1)) cap F1 y.pl (fun q => q ∈ S.take (i + 1)) F2 pl2 → D w0 (cel y.blk 60 [.int .i64 y.size, .int .i64 y.parent, .map (some y.fb), .slice q y.ch.length c, .bool y.sl, .int .i64 y.from_, .int .i64 y.depth, .bool true] :: Mp y.fb (fgM pl2) pl2.length :: Pl pb cap F2 :: cel b 55 [.pointer (some ⟨pb, 0, none⟩), .map (some m), .int .i64 most, .int .i64 last] :: Rw 3 1 sv2 S.length (S.flatMap nI) :: Rw 3 1 (.slice q y.ch.length c) y.ch.length (y.ch.flatMap nc) :: sat ((rmV cv M1).map vob) :: Rw 3 1 sv E.length (E.flatMap nc) :: Mp m (vmap M1) M1.length :: cel bi 3 [.int .i64 cv] :: L) w →
        (∃ (i' : Nat) (F2 : List Fr) (pl2 : PL), [Value.int .i64 ((i : Int) + 1)] = [.int .i64 i'] ∧ i' ≤ S.length ∧ (S = [] → F2 = F1 ∧ pl2 = y.pl) ∧ RG (tot (rmV cv M1)) cap F1 y.pl (fun q => q ∈ S.take i') F2 pl2 ∧ D w0 (cel y.blk 60 [.int .i64 y.size, .int .i64 y.parent, .map mp, .slice q y.ch.length c, .bool y.sl, .int .i64 y.from_, .int .i64 y.depth, .bool true] :: fmp { y with pl := pl2 } :: Pl pb cap F2 :: cel b 55 [.pointer (some ⟨pb, 0, none⟩), .map (some m), .int .i64 most, .int .i64 last] :: Rw 3 1 sv2 S.length (S.flatMap nI) :: Rw 3 1 (.slice q y.ch.length c) y.ch.length (y.ch.flatMap nc) :: sat ((rmV cv M1).map vob) :: Rw 3 1 sv E.length (E.flatMap nc) :: Mp m (vmap M1) M1.length :: cel bi 3 [.int .i64 cv] :: L) w) ∧ S.length - ((i : Int) + 1).toNat < S.length - (i : Int).toNat := fun F2 pl2 w h2 d => ⟨⟨i + 1, F2, pl2, by simp, by omega, fun h => by rw [h] at hlt'; simp at hlt', h2, by
          rw [e1, fmp_f (y := { y with pl := pl2 }) hf]; exact d⟩, by omega⟩
      skip
      refine fn30 (fun _ _ => rfl) (release_ok hri.kn (fun f hf => by
        have h1 := hri.ui.live hf
        have hf2 := fr_lt (F := F2) (i := f) (by omega)
        have := hri.ok.us _ (List.getElem_mem hf2)
        rw [← fr_get hf2] at this
        omega) (by have := hri.ok.len; have := hri.ok.mo; omega) d (fun hno w d => ?_) fun f hf w d => ?_)
      · repeat (simp +decide only [SEM])
        rw [hw1]
        exact next F2 pl2 w ((hri.no hno).to fun q => (e7 q).symm) d
      · repeat (simp +decide only [SEM])
        rw [hw1]
        exact next _ _ w ((hri.yes hf).to fun q => (e7 q).symm) d
    · rw [List.take_of_length_le (by omega)] at hri
      subst hsv
      have hvw : VW cap F2 ({ y with pl := [] } :: rmV cv M1) := by
        by_cases hf : y.hasf = true
        · exact (hD.vw.clear hy hf (hri.as (fun _ _ => trivial) fun q _ h2 => by
            rw [hS] at h2
            cases hl : look y.pl q with
            | none => rfl
            | some f => rw [hl] at h2; exact absurd rfl h2)).2
        · have hf : y.hasf = false := by simpa using hf
          obtain ⟨rfl, -⟩ := hF0 (hS0 hf)
          have h1 := hD.vw.dr hy
          have e : ({ y with dr := true } : Vo) = { y with pl := [] } := by
            have h2 := hhf hf
            cases y
            simp_all
          rwa [e] at h1
      have d := (D.sel [1, 4, 5] d).tail.tail.tail
      have hD' : DI last cap id M (fun k => k = cv) F1 M1 E := ⟨hD.vw, ⟨hD.ei.ids, hD.ei.ch, hD.ei.chn, hD.ei.par, fun a z h1 h2 h3 => hP a (hD.ei.dr a z h1 h2 h3)⟩, hD.pm, hD.dr, hD.kp, hD.en⟩
      have hst := fun v => hD'.step (v := v) hy hdr hc hvw
      repeat (first | refine drw d fun w d => ?_ | (simp +decide only [SEM]) | refine qt d ?_ | refine qe_nil ?_ | (apply qlm; (focus ((repeat (first | exact .h _ | refine .t _ _ ?_)); done)); (focus rfl)))
      refine mdelm_ok Try.underlying53 Try.underlying3 d (.t _ _ _ (.t _ _ _ (.t _ _ _ (.t _ _ _ (.t _ _ _ (.h _)))))) fun w d => ?_
      have e2 : (vmap M1 cv).isSome = true := by unfold vmap; rw [hy]; rfl
      have e3 : M1.length - 1 = (rmV cv M1).length := by omega
      rw [e2, if_pos rfl, ← vmap_rm, e3] at d
      repeat (first | (apply ldm d; (focus ((repeat (first | exact .h _ | refine .t _ _ ?_)); done)); (focus rfl)) | refine bsl1 (by first | rfl | (simp only [cells_agg, cells_int, cells_bool, cells_ptr, cells_sl, cells_map, cells_fn, List.drop_succ_cons, List.drop_zero, List.take_succ_cons, List.take_zero, Nat.zero_add, Nat.reduceAdd, Int.toNat_natCast, Int.toNat_zero]; rfl)) rfl d (by decide) (by decide) fun bn w d => ?_)
      generalize bn = bz at d ⊢
      refine d_app (m := 1) (D.sel [5] d) (src_of (gc1 (D.sel [5] d)) rfl (ones rfl) 1) rfl (by omega) (by omega) (by omega) (ones rfl) fun sv' w d => ?_
      obtain ⟨q2, c2, rfl, -⟩ := Rw.shape d.1
      have e4 : (E ++ [cv]).flatMap nc = E.flatMap nc ++ [.int .i64 cv] := by rw [List.flatMap_append, List.flatMap_singleton]; rfl
      have e5 : (E ++ [cv]).length = E.length + 1 := by simp
      have hvf : vfind (rmV cv M1) y.parent = vfind M1 y.parent := by rw [vfind_rm, if_neg (fun h => hne h.symm)]
      repeat (first | refine drw d fun w d => ?_ | (simp +decide only [SEM]) | refine qt d ?_ | refine qe_nil ?_ | (apply qlm; (focus ((repeat (first | exact .h _ | refine .t _ _ ?_)); done)); (focus rfl)))
      refine lkm1_ok Try.underlying53 Try.underlying3 (z := .pointer none) (by kernel_rfl) d (.t _ _ (.t _ _ (.t _ _ (.t _ _ (.t _ _ (.t _ _ (.h _))))))) ?_
      cases hup : vfind M1 y.parent with
      | none =>
        have ea : ∀ v, rmC M1 cv y.parent v = rmV cv M1 := fun v => by unfold Go.Proofs.Ytgkbbihaaichbaa.rmC; rw [hup]
        rw [vmap_none (hvf.trans hup)]
        repeat (first | (simp +decide only [SEM]) | (apply ldm d; (focus ((repeat (first | exact .h _ | refine .t _ _ ?_)); done)); (focus rfl)) | (apply swm d; (focus ((repeat (first | exact .h _ | apply Rp.t)); done)); (focus rfl); (focus rfl); (focus exact ones rfl); intro w d; simp only [SPL] at d))
        refine ⟨⟨E ++ [cv], _, F2, rmV cv M1, y.parent, _, fun _ => False, rfl, ?_, .inl ⟨rfl, fun _ h => h⟩, ?_⟩, by omega⟩
        · have := hst (.slice none 0 0)
          rw [ea] at this
          refine this.stop fun a z hz hp => ?_
          rw [hp, hvf, hup] at hz; cases hz
        · rw [e4, e5]
          exact D.sel [0, 3, 2, 1] (D.sel [1, 2] d).tail.tail
      | some up =>
        have ea : ∀ v, rmC M1 cv y.parent v = { up with cv := v, ch := up.ch.filter fun k => decide (k ≠ cv) } :: rmV y.parent (rmV cv M1) := fun v => by unfold Go.Proofs.Ytgkbbihaaichbaa.rmC; rw [hup]
        have hui := (vfind_id hup).1
        have hchl : up.ch.length ≤ 1000000 := by
          have := nodup_len (B := M1.map (·.id)) (hD.ei.chn _ up hup) fun k hk => by
            obtain ⟨z, hz, -⟩ := (hD.ei.ch _ up hup k).1 hk
            exact List.mem_map.2 ⟨z, (vfind_id hz).2, (vfind_id hz).1⟩
          rw [List.length_map] at this
          omega
        rw [vmap_some (hvf.trans hup)]
        repeat (simp +decide only [SEM])
        have d := vone_out (hD.vw.nd.rm cv) (hvf.trans hup) (D.sel [5] d)
        have hv2 : vcell up = [.int .i64 up.size, .int .i64 up.parent, fmv up, up.cv, .bool up.sl, .int .i64 up.from_, .int .i64 up.depth, .bool up.dr] := rfl
        rw [hv2] at d
        repeat (apply ldm d; (focus ((repeat (first | exact .h _ | refine .t _ _ ?_)); done)); (focus rfl))
        refine fn20 (fun _ _ => rfl) (DelI_ok hchl (D.sel [1, 10] d) fun sv2 w d => ?_)
        have d : D w0 (Rw 3 1 sv2 (up.ch.filter fun k => decide (k ≠ cv)).length ((up.ch.filter fun k => decide (k ≠ cv)).flatMap nc) :: cel bi 3 [.int .i64 cv] :: cel up.blk 60 [.int .i64 up.size, .int .i64 up.parent, fmv up, up.cv, .bool up.sl, .int .i64 up.from_, .int .i64 up.depth, .bool up.dr] :: fmp up :: sat ((rmV y.parent (rmV cv M1)).map vob) :: Rw 3 1 (.slice q2 (E.length + 1) c2) (E.length + 1) (E.flatMap nc ++ [.int .i64 cv]) :: cel bz 3 [.int .i64 cv] :: cel y.blk 60 [.int .i64 y.size, .int .i64 y.parent, .map mp, .slice q y.ch.length c, .bool y.sl, .int .i64 y.from_, .int .i64 y.depth, .bool true] :: Pl pb cap F2 :: cel b 55 [.pointer (some ⟨pb, 0, none⟩), .map (some m), .int .i64 most, .int .i64 last] :: Mp m (vmap (rmV cv M1)) (rmV cv M1).length :: L) w := d
        obtain ⟨q3, c3, hsl, -⟩ := Rw.shape d.1
        rw [hsl] at d ⊢
        repeat (first | (simp +decide only [SEM]) | (apply ldm d; (focus ((repeat (first | exact .h _ | refine .t _ _ ?_)); done)); (focus rfl)) | (apply swm d; (focus ((repeat (first | exact .h _ | apply Rp.t)); done)); (focus rfl); (focus rfl); (focus exact ones rfl); intro w d; simp only [SPL] at d) | (apply stm d; (focus ((repeat (first | exact .h _ | apply Rp.t)); done)); (focus rfl); (focus simp); (focus exact ones rfl); intro w d; simp only [SPL] at d))
        rw [← hsl] at d
        have d : D w0 (cel up.blk 60 (vcell { up with cv := sv2, ch := up.ch.filter fun k => decide (k ≠ cv) }) :: Rw 3 1 sv2 (up.ch.filter fun k => decide (k ≠ cv)).length ((up.ch.filter fun k => decide (k ≠ cv)).flatMap nc) :: fmp up :: sat ((rmV y.parent (rmV cv M1)).map vob) :: cel bi 3 [.int .i64 y.parent] :: Rw 3 1 (.slice q2 (E.length + 1) c2) (E.length + 1) (E.flatMap nc ++ [.int .i64 cv]) :: cel bz 3 [.int .i64 cv] :: cel y.blk 60 [.int .i64 y.size, .int .i64 y.parent, .map mp, .slice q y.ch.length c, .bool y.sl, .int .i64 y.from_, .int .i64 y.depth, .bool true] :: Pl pb cap F2 :: cel b 55 [.pointer (some ⟨pb, 0, none⟩), .map (some m), .int .i64 most, .int .i64 last] :: Mp m (vmap (rmV cv M1)) (rmV cv M1).length :: L) w := D.sel [2, 0, 3, 4] d
        have d := vone_in (y := { up with cv := sv2, ch := up.ch.filter fun k => decide (k ≠ cv) }) (R := rmV y.parent (rmV cv M1)) d
        have e6 := vmap_set (y := { up with cv := sv2, ch := up.ch.filter fun k => decide (k ≠ cv) }) (hvf.trans hup) hui rfl
        have e7 := setv_len (y := { up with cv := sv2, ch := up.ch.filter fun k => decide (k ≠ cv) }) (hD.vw.nd.rm cv) (hvf.trans hup)
        have h1 := hst sv2
        rw [ea] at h1
        refine ⟨⟨E ++ [cv], _, F2, _, y.parent, _, _, rfl, h1, .inr ⟨{ up with cv := sv2, ch := up.ch.filter fun k => decide (k ≠ cv) }, rfl, ?_, fun _ h => h⟩, ?_⟩, by omega⟩
        · rw [vfind_cons, if_pos hui]
        · rw [e4, e5, e6, e7]
          exact D.sel [2, 0, 4, 3, 5, 1] (D.sel [3, 4] d).tail.tail
end
end Go.Proofs.Ytgkbbihaaichbaa
