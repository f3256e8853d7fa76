/- What a code asks, told over an environment; that this suffices for the machine's steps. -/
import Derived.Test.YtocoegnoencghaaGreatDoorBb
namespace Go.Jac
open Go

def dstAt (all : List Oper) (j : Nat) : Option Nat := (all[j]?).bind (·.dst)
/-- Operations in a row. -/
def WOps (P : Program) (all : List Oper) : List Oper → Env → (Env → WP) → WP
  | [], ρ, K => K ρ
  | o :: r, ρ, K => match o.guard with
    | none => OpV P o ρ fun v => WOps P all r (ρ.put o.dst v) K
    | some (j, b) => match dstAt all j with
      | some g => GrdW (ρ g) b (OpV P o (ρ.upd g (sb b)) fun v => WOps P all r ((ρ.upd g (sb b)).put o.dst v) K) (WOps P all r ((ρ.upd g (sb (!b))).put o.dst su) K) (WOps P all r (ρ.put o.dst su) K)
      | none => fun _ => False

theorem GrdW_cases {x : SV} (hg : x.Good) {b : Bool} {t e u : WP} {w : World} (h : GrdW x b t e u w) : (x.v = .bool b ∧ t w) ∨ (x.v = .bool (!b) ∧ e w) ∨ ((∀ c, x.v ≠ .bool c) ∧ u w) := by
  obtain ⟨k, v⟩ := x
  cases k with
  | tt =>
    have hv : v = .bool true := hg
    subst hv
    cases b
    · exact .inr (.inl ⟨rfl, h⟩)
    · exact .inl ⟨rfl, h⟩
  | ff =>
    have hv : v = .bool false := hg
    subst hv
    cases b
    · exact .inl ⟨rfl, h⟩
    · exact .inr (.inl ⟨rfl, h⟩)
  | un => exact .inr (.inr ⟨hg, h⟩)
  | unk =>
    obtain ⟨c, hc, h1, h2⟩ := h
    simp only at hc
    subst hc
    by_cases e : c = b
    · subst e; exact .inl ⟨rfl, h1 rfl⟩
    · have : c = !b := by cases c <;> cases b <;> simp_all
      exact .inr (.inl ⟨by rw [this], h2 this⟩)

def dsts (l : List Oper) : List Nat := l.flatMap fun o => o.dst.toList
theorem VEnv.put_keep {ρ : VEnv} {d : Option Nat} {v : Value} {i : Nat} (h : ∀ x, d = some x → i ≠ x) : ρ.put d v i = ρ i := by
  cases d with
  | none => rfl
  | some x => exact VEnv.upd_ne _ _ (h x rfl)
theorem Env.val_know {ρ : Env} {g : Nat} {s : SV} (h : (ρ g).v = s.v) : (ρ.upd g s).val = ρ.val := by
  rw [Env.val_upd]; exact VEnv.upd_self h

section
variable {P : Program} {n : Nat} {ro : Option Nat} {ops : Array Oper} {Q : Exit → Act → World → Prop}

theorem yielded_eq {a : Act} {ρ : VEnv} (hA : Agree n a ρ) (hok : allB (opOk n) ops.toList = true) {j g : Nat} (hg : dstAt ops.toList j = some g) :
    yielded ops a.tmps j = match ρ g with | .bool b => some b | _ => none := by
  have hg' : (ops[j]?).bind (·.dst) = some g := by simpa [dstAt] using hg
  have hlt : g < n := by
    cases ho : ops[j]? with
    | none => rw [ho] at hg'; cases hg'
    | some o =>
      rw [ho] at hg'
      have hm : o ∈ ops.toList := by
        have := Array.mem_of_getElem? ho
        simpa using this
      have := opOk_dst (allB_iff.1 hok o hm)
      have hd : o.dst = some g := hg'
      rw [hd] at this
      have : g + 1 ≤ n := by simpa [Nat.blt] using this
      exact this
  have ht : a.tmps[g]? = some (ρ g) := by
    have := hA.tmp g hlt
    rw [Array.getD_eq_getD_getElem?] at this
    rw [Array.getElem?_eq_getElem (by rw [hA.size]; exact hlt)] at this ⊢
    simpa using this
  simp only [yielded, hg', Option.bind_some, ht]
  cases ρ g <;> rfl

theorem wops_sound (hn : n ≤ MK) (hall : allB (opOk n) ops.toList = true) : ∀ (l : List Nat) (r : List Oper), (∀ o ∈ r, o ∈ ops.toList) → l.map (fun i => ops[i]?) = r.map some → ∀ (a : Act) (ρ : Env) (w : World) (K : Env → WP),
    Agree n a ρ.val → Gd ρ → WOps P ops.toList r ρ K w →
    ∀ l2, (∀ a' ρ' w', Agree n a' ρ'.val → Gd ρ' → (∀ i, i ∉ dsts r → ρ'.val i = ρ.val i) → K ρ' w' → wpOpsIn (FR ro) 0 P ops Q l2 a' w') → wpOpsIn (FR ro) 0 P ops Q (l ++ l2) a w
  | [], [], _, _, a, ρ, w, K, hA, hG, h, l2, hK => hK a ρ w hA hG (fun _ _ => rfl) h
  | [], _ :: _, _, hl, _, _, _, _, _, _, _, _, _ => by simp at hl
  | _ :: _, [], _, hl, _, _, _, _, _, _, _, _, _ => by simp at hl
  | i :: l, o :: r, hr, hl, a, ρ, w, K, hA, hG, h, l2, hK => by
    simp only [List.map_cons, List.cons.injEq] at hl
    obtain ⟨ho, hl⟩ := hl
    have hok : opOk n o = true := allB_iff.1 hall o (hr o (by simp))
    have hrest : ∀ (ρ1 : Env) (s : SV) (a' : Act) (w' : World), Gd ρ1 → ρ1.val = ρ.val → s.Good → a' = a.put o.dst s.v → WOps P ops.toList r (ρ1.put o.dst s) K w' → wpOpsIn (FR ro) 0 P ops Q (l ++ l2) a' w' := by
      rintro ρ1 s a' w' hG1 hv1 hs rfl hw
      refine wops_sound hn hall l r (fun x hx => hr x (by simp [hx])) hl _ _ _ K (by rw [Env.val_put, hv1]; exact hA.put hn s.v (opOk_dst hok)) (hG1.put _ hs) hw l2 fun a2 ρ2 w2 hA2 hG2 hk2 hK2 => hK a2 ρ2 w2 hA2 hG2 (fun t ht => ?_) hK2
      have h1 : t ∉ dsts r := fun hm => ht (by simp only [dsts, List.flatMap_cons, List.mem_append]; exact .inr hm)
      rw [hk2 t h1, Env.val_put, hv1]
      refine VEnv.put_keep fun x hx e => ht ?_
      simp only [dsts, List.flatMap_cons, List.mem_append]
      exact .inl (by rw [hx, e]; simp)
    have hev : ∀ ρ1 : Env, ρ1.val = ρ.val → ∀ x ∈ o.op.operands, a.eval x = ev ρ1 x := fun ρ1 hv x hx => by rw [ev_val, hv]; exact hA.ev_eq (opOk_reads hok x hx)
    simp only [List.cons_append, wpOpsIn, ho]
    unfold WOps at h
    cases hg : o.guard with
    | none =>
      rw [hg] at h
      have hw : Region.wanted o (yielded ops a.tmps) = true := by simp [Region.wanted, hg]
      rw [if_pos hw]
      exact opV_sound hG (hev ρ rfl) (fun s w' hs hv => hrest ρ s _ w' hG rfl hs rfl hv) h
    | some jb =>
      obtain ⟨j, b⟩ := jb
      rw [hg] at h
      dsimp only at h
      cases hd : dstAt ops.toList j with
      | none => rw [hd] at h; exact h.elim
      | some g =>
        rw [hd] at h
        dsimp only at h
        have hy := yielded_eq hA hall hd
        have hwd : Region.wanted o (yielded ops a.tmps) = (yielded ops a.tmps j == some b) := by simp [Region.wanted, hg]
        rcases GrdW_cases (hG g) h with ⟨hx, h⟩ | ⟨hx, h⟩ | ⟨hx, h⟩
        · have hv1 : (ρ.upd g (sb b)).val = ρ.val := Env.val_know (by rw [sb_v]; exact hx)
          have hw : Region.wanted o (yielded ops a.tmps) = true := by rw [hwd, hy, show ρ.val g = _ from hx]; simp
          rw [if_pos hw]
          exact opV_sound (hG.upd g (good_sb b)) (hev _ hv1) (fun s w' hs hv => hrest _ s _ w' (hG.upd g (good_sb b)) hv1 hs rfl hv) h
        · have hv1 : (ρ.upd g (sb (!b))).val = ρ.val := Env.val_know (by rw [sb_v]; exact hx)
          have hw : ¬ Region.wanted o (yielded ops a.tmps) = true := by rw [hwd, hy, show ρ.val g = _ from hx]; cases b <;> simp
          rw [if_neg hw]
          exact ⟨fun f _ => FR_fn ro f, hrest _ su _ w (hG.upd g (good_sb _)) hv1 good_su rfl h⟩
        · have hw : ¬ Region.wanted o (yielded ops a.tmps) = true := by
            rw [hwd, hy]
            cases hv : ρ.val g with
            | bool c => exact absurd hv (hx c)
            | _ => simp
          rw [if_neg hw]
          exact ⟨fun f _ => FR_fn ro f, hrest ρ su _ w hG rfl good_su rfl h⟩
end
end Go.Jac
