/- A region whose order is open: one walk in the order of the text serves every order, where what is not forced into a row only reads. -/
import Derived.Test.YtcdkbkgpgemfgaaGreatDoorBb
namespace Go.Jac
open Go

def dstAt (all : List Oper) (j : Nat) : Option Nat := (all[j]?).bind (·.dst)
/-- Operations in a row. -/
def WOps (P : Program) (all : List Oper) : List Oper → Env → (Env → WP) → WP
  | [], ρ, K => K ρ
  | o :: r, ρ, K => match o.guard with
    | none => OpV P o ρ fun v => WOps P all r (ρ.put o.dst v) K
    | some (j, b) => match dstAt all j with
      | some g => GrdW (ρ g) b (OpV P o (ρ.upd g (sb b)) fun v => WOps P all r ((ρ.upd g (sb b)).put o.dst v) K) (WOps P all r ((ρ.upd g (sb (!b))).put o.dst su) K) (WOps P all r (ρ.put o.dst su) K)
      | none => fun _ => False

theorem GrdW_cases {x : SV} (hg : x.Good) {b : Bool} {t e u : WP} {w : World} (h : GrdW x b t e u w) : (x.v = .bool b ∧ t w) ∨ (x.v = .bool (!b) ∧ e w) ∨ ((∀ c, x.v ≠ .bool c) ∧ u w) := by
  obtain ⟨k, v⟩ := x
  cases k with
  | tt =>
    have hv : v = .bool true := hg
    subst hv
    cases b
    · exact .inr (.inl ⟨rfl, h⟩)
    · exact .inl ⟨rfl, h⟩
  | ff =>
    have hv : v = .bool false := hg
    subst hv
    cases b
    · exact .inl ⟨rfl, h⟩
    · exact .inr (.inl ⟨rfl, h⟩)
  | un => exact .inr (.inr ⟨hg, h⟩)
  | unk =>
    obtain ⟨c, hc, h1, h2⟩ := h
    simp only at hc
    subst hc
    by_cases e : c = b
    · subst e; exact .inl ⟨rfl, h1 rfl⟩
    · have : c = !b := by cases c <;> cases b <;> simp_all
      exact .inr (.inl ⟨by rw [this], h2 this⟩)

def dsts (l : List Oper) : List Nat := l.flatMap fun o => o.dst.toList
theorem VEnv.put_keep {ρ : VEnv} {d : Option Nat} {v : Value} {i : Nat} (h : ∀ x, d = some x → i ≠ x) : ρ.put d v i = ρ i := by
  cases d with
  | none => rfl
  | some x => exact VEnv.upd_ne _ _ (h x rfl)
theorem Env.val_know {ρ : Env} {g : Nat} {s : SV} (h : (ρ g).v = s.v) : (ρ.upd g s).val = ρ.val := by
  rw [Env.val_upd]; exact VEnv.upd_self h

section
variable {P : Program} {n : Nat} {ro : Option Nat} {ops : Array Oper} {Q : Exit → Act → World → Prop}

theorem yielded_eq {a : Act} {ρ : VEnv} (hA : Agree n a ρ) (hok : allB (opOk n) ops.toList = true) {j g : Nat} (hg : dstAt ops.toList j = some g) :
    yielded ops a.tmps j = match ρ g with | .bool b => some b | _ => none := by
  have hg' : (ops[j]?).bind (·.dst) = some g := by simpa [dstAt] using hg
  have hlt : g < n := by
    cases ho : ops[j]? with
    | none => rw [ho] at hg'; cases hg'
    | some o =>
      rw [ho] at hg'
      have hm : o ∈ ops.toList := by
        have := Array.mem_of_getElem? ho
        simpa using this
      have := opOk_dst (allB_iff.1 hok o hm)
      have hd : o.dst = some g := hg'
      rw [hd] at this
      have : g + 1 ≤ n := by simpa [Nat.blt] using this
      exact this
  have ht : a.tmps[g]? = some (ρ g) := by
    have := hA.tmp g hlt
    rw [Array.getD_eq_getD_getElem?] at this
    rw [Array.getElem?_eq_getElem (by rw [hA.size]; exact hlt)] at this ⊢
    simpa using this
  simp only [yielded, hg', Option.bind_some, ht]
  cases ρ g <;> rfl

theorem wops_sound (hn : n ≤ MK) (hall : allB (opOk n) ops.toList = true) : ∀ (l : List Nat) (r : List Oper), (∀ o ∈ r, o ∈ ops.toList) → l.map (fun i => ops[i]?) = r.map some → ∀ (a : Act) (ρ : Env) (w : World) (K : Env → WP),
    Agree n a ρ.val → Gd ρ → WOps P ops.toList r ρ K w →
    ∀ l2, (∀ a' ρ' w', Agree n a' ρ'.val → Gd ρ' → (∀ i, i ∉ dsts r → ρ'.val i = ρ.val i) → K ρ' w' → wpOpsIn (FR ro) 0 P ops Q l2 a' w') → wpOpsIn (FR ro) 0 P ops Q (l ++ l2) a w
  | [], [], _, _, a, ρ, w, K, hA, hG, h, l2, hK => hK a ρ w hA hG (fun _ _ => rfl) h
  | [], _ :: _, _, hl, _, _, _, _, _, _, _, _, _ => by simp at hl
  | _ :: _, [], _, hl, _, _, _, _, _, _, _, _, _ => by simp at hl
  | i :: l, o :: r, hr, hl, a, ρ, w, K, hA, hG, h, l2, hK => by
    simp only [List.map_cons, List.cons.injEq] at hl
    obtain ⟨ho, hl⟩ := hl
    have hok : opOk n o = true := allB_iff.1 hall o (hr o (by simp))
    have hrest : ∀ (ρ1 : Env) (s : SV) (a' : Act) (w' : World), Gd ρ1 → ρ1.val = ρ.val → s.Good → a' = a.put o.dst s.v → WOps P ops.toList r (ρ1.put o.dst s) K w' → wpOpsIn (FR ro) 0 P ops Q (l ++ l2) a' w' := by
      rintro ρ1 s a' w' hG1 hv1 hs rfl hw
      refine wops_sound hn hall l r (fun x hx => hr x (by simp [hx])) hl _ _ _ K (by rw [Env.val_put, hv1]; exact hA.put hn s.v (opOk_dst hok)) (hG1.put _ hs) hw l2 fun a2 ρ2 w2 hA2 hG2 hk2 hK2 => hK a2 ρ2 w2 hA2 hG2 (fun t ht => ?_) hK2
      have h1 : t ∉ dsts r := fun hm => ht (by simp only [dsts, List.flatMap_cons, List.mem_append]; exact .inr hm)
      rw [hk2 t h1, Env.val_put, hv1]
      refine VEnv.put_keep fun x hx e => ht ?_
      simp only [dsts, List.flatMap_cons, List.mem_append]
      exact .inl (by rw [hx, e]; simp)
    have hev : ∀ ρ1 : Env, ρ1.val = ρ.val → ∀ x ∈ o.op.operands, a.eval x = ev ρ1 x := fun ρ1 hv x hx => by rw [ev_val, hv]; exact hA.ev_eq (opOk_reads hok x hx)
    simp only [List.cons_append, wpOpsIn, ho]
    unfold WOps at h
    cases hg : o.guard with
    | none =>
      rw [hg] at h
      have hw : Region.wanted o (yielded ops a.tmps) = true := by simp [Region.wanted, hg]
      rw [if_pos hw]
      exact opV_sound hG (hev ρ rfl) (fun s w' hs hv => hrest ρ s _ w' hG rfl hs rfl hv) h
    | some jb =>
      obtain ⟨j, b⟩ := jb
      rw [hg] at h
      dsimp only at h
      cases hd : dstAt ops.toList j with
      | none => rw [hd] at h; exact h.elim
      | some g =>
        rw [hd] at h
        dsimp only at h
        have hy := yielded_eq hA hall hd
        have hwd : Region.wanted o (yielded ops a.tmps) = (yielded ops a.tmps j == some b) := by simp [Region.wanted, hg]
        rcases GrdW_cases (hG g) h with ⟨hx, h⟩ | ⟨hx, h⟩ | ⟨hx, h⟩
        · have hv1 : (ρ.upd g (sb b)).val = ρ.val := Env.val_know (by rw [sb_v]; exact hx)
          have hw : Region.wanted o (yielded ops a.tmps) = true := by rw [hwd, hy, show ρ.val g = _ from hx]; simp
          rw [if_pos hw]
          exact opV_sound (hG.upd g (good_sb b)) (hev _ hv1) (fun s w' hs hv => hrest _ s _ w' (hG.upd g (good_sb b)) hv1 hs rfl hv) h
        · have hv1 : (ρ.upd g (sb (!b))).val = ρ.val := Env.val_know (by rw [sb_v]; exact hx)
          have hw : ¬ Region.wanted o (yielded ops a.tmps) = true := by rw [hwd, hy, show ρ.val g = _ from hx]; cases b <;> simp
          rw [if_neg hw]
          exact ⟨fun f _ => FR_fn ro f, hrest _ su _ w (hG.upd g (good_sb _)) hv1 good_su rfl h⟩
        · have hw : ¬ Region.wanted o (yielded ops a.tmps) = true := by
            rw [hwd, hy]
            cases hv : ρ.val g with
            | bool c => exact absurd hv (hx c)
            | _ => simp
          rw [if_neg hw]
          exact ⟨fun f _ => FR_fn ro f, hrest ρ su _ w hG rfl good_su rfl h⟩
end
end Go.Jac
namespace Go.Jac
open Go

/-! ### Which operations hang on which -/
def maskOf (acc : List Nat) (o : Oper) : Nat :=
  o.after.toList.foldl (fun s e => cond (Region.binds .any e) (s ||| 2 ^ e.on ||| acc.getD e.on 0) s) 0
def bef : List Oper → List Nat → List Nat
  | [], acc => acc
  | o :: r, acc => bef r (acc ++ [maskOf acc o])
def dep (B : List Nat) (i j : Nat) : Bool := (B.getD j 0).testBit i

theorem bef_split : ∀ (l : List Oper) (acc : List Nat), ∃ t, bef l acc = acc ++ t ∧ t.length = l.length
  | [], acc => ⟨[], by simp [bef]⟩
  | o :: r, acc => by
    obtain ⟨t, ht, hl⟩ := bef_split r (acc ++ [maskOf acc o])
    exact ⟨maskOf acc o :: t, by rw [bef, ht]; simp, by simp [hl]⟩
theorem bef_entry : ∀ (l : List Oper) (acc : List Nat) (p : Nat) (o : Oper), l[p]? = some o → ∃ acc' t, (bef l acc).getD (acc.length + p) 0 = maskOf acc' o ∧ bef l acc = acc' ++ t ∧ acc'.length = acc.length + p
  | [], _, _, _, h => by simp at h
  | o :: r, acc, 0, o', h => by
    simp at h; subst h
    obtain ⟨t, ht, _⟩ := bef_split r (acc ++ [maskOf acc o])
    refine ⟨acc, maskOf acc o :: t, ?_, by rw [bef, ht]; simp, by simp⟩
    rw [bef, ht]; simp [List.getD_eq_getElem?_getD]
  | o :: r, acc, p + 1, o', h => by
    obtain ⟨acc', t, h1, h2, h3⟩ := bef_entry r (acc ++ [maskOf acc o]) p o' (by simpa using h)
    refine ⟨acc', t, ?_, by rw [bef]; exact h2, by rw [h3]; simp; omega⟩
    rw [bef, ← h1]; congr 1; simp; omega
theorem mask_bit {acc : List Nat} {q : Nat} : ∀ (es : List Edge) (s : Nat), (es.foldl (fun s e => cond (Region.binds .any e) (s ||| 2 ^ e.on ||| acc.getD e.on 0) s) s).testBit q = true →
    s.testBit q = true ∨ ∃ e ∈ es, Region.binds .any e = true ∧ (e.on = q ∨ (acc.getD e.on 0).testBit q = true)
  | [], s, h => .inl h
  | e :: es, s, h => by
    simp only [List.foldl_cons] at h
    rcases mask_bit es _ h with h | ⟨e', he, hb⟩
    · cases hb : Region.binds .any e with
      | false => rw [hb] at h; exact .inl h
      | true =>
        rw [hb] at h
        simp only [cond_true, Nat.testBit_or, Bool.or_eq_true, Nat.testBit_two_pow, decide_eq_true_eq] at h
        rcases h with (h | h) | h
        · exact .inl h
        · exact .inr ⟨e, by simp, hb, .inl h⟩
        · exact .inr ⟨e, by simp, hb, .inr h⟩
    · exact .inr ⟨e', by simp [he], hb⟩
theorem dep_step {l : List Oper} {q j : Nat} (h : dep (bef l []) q j = true) : ∃ o, l[j]? = some o ∧ ∃ e ∈ o.after.toList, Region.binds .any e = true ∧ (e.on = q ∨ dep (bef l []) q e.on = true) := by
  unfold dep at h
  cases ho : l[j]? with
  | none =>
    obtain ⟨t, ht, hl⟩ := bef_split l []
    rw [ht] at h
    have : ([] ++ t).getD j 0 = 0 := by
      rw [List.getD_eq_getElem?_getD, List.getElem?_eq_none]
      · rfl
      · simp [hl]; exact List.getElem?_eq_none_iff.1 ho
    rw [this] at h; simp at h
  | some o =>
    obtain ⟨acc', t, h1, h2, h3⟩ := bef_entry l [] j o ho
    simp only [List.length_nil, Nat.zero_add] at h1 h3
    rw [h1] at h
    rcases mask_bit _ _ h with h | ⟨e, he, hb, h⟩
    · simp at h
    · refine ⟨o, rfl, e, he, hb, h.imp id fun h => ?_⟩
      unfold dep
      rw [h2]
      by_cases hlt : e.on < acc'.length
      · rw [List.getD_eq_getElem?_getD] at h ⊢
        rw [List.getElem?_append_left hlt]; exact h
      · rw [List.getD_eq_getElem?_getD, List.getElem?_eq_none (by omega)] at h; simp at h

/-- What an operation names. -/
def namesOf (all : List Oper) (o : Oper) : List Nat :=
  o.dst.toList ++ (readsOf o ++ (match o.guard with | some (j, _) => (dstAt all j).toList | none => []))
def pairOk (all : List Oper) (x y : Oper) (d : Bool) : Bool :=
  cond d true (cond (match x.dst with | some t => hasN (namesOf all y) t | none => false) false (cond (match y.dst with | some t => hasN (namesOf all x) t | none => false) false true))
def rowOk (all : List Oper) (B : List Nat) (y : Oper) (j : Nat) : List Oper → Nat → Bool
  | [], _ => true
  | x :: r, i => cond (Nat.blt i j) (cond (pairOk all x y (dep B i j)) (rowOk all B y j r (i + 1)) false) true
def colOk (all : List Oper) (B : List Nat) : List Oper → Nat → Bool
  | [], _ => true
  | y :: r, j => cond (rowOk all B y j all 0) (colOk all B r (j + 1)) false
def edgesOk : List Oper → Nat → Bool
  | [], _ => true
  | o :: r, j => cond (allB (fun e : Edge => cond (Region.binds .any e) (Nat.blt e.on j) true) o.after.toList) (edgesOk r (j + 1)) false
/-- Whatever lies from m on hangs on all that lies ahead of m. -/
def barrier (B : List Nat) (m k : Nat) : Bool := allB (fun j => Nat.beq (Nat.land (B.getD j 0) (2 ^ m - 1)) (2 ^ m - 1)) ((List.range k).map (· + m))
/-- The segments: ends at each barrier. -/
def segs (B : List Nat) : List Oper → Nat → List Oper → List (List Oper)
  | [], _, [] => []
  | [], _, cur => [cur]
  | o :: r, m, cur => cond (barrier B (m + 1) r.length) ((cur ++ [o]) :: segs B r (m + 1) []) (segs B r (m + 1) (cur ++ [o]))
def drawOk (ops : List Oper) : Bool := cond (edgesOk ops 0) (colOk ops (bef ops []) ops 0) false

theorem rowOk_iff {all : List Oper} {B : List Nat} {y : Oper} {j : Nat} : ∀ (l : List Oper) (i : Nat), rowOk all B y j l i = true → ∀ p x, l[p]? = some x → i + p < j → pairOk all x y (dep B (i + p) j) = true
  | [], _, _, p, x, h, _ => by simp at h
  | z :: r, i, h, p, x, hx, hlt => by
    have hb : Nat.blt i j = true := by simp [Nat.blt]; omega
    rw [rowOk, hb] at h
    cases hp : pairOk all z y (dep B i j) with
    | false => rw [hp] at h; cases h
    | true =>
      rw [hp] at h
      cases p with
      | zero => simp at hx; subst hx; exact hp
      | succ p =>
        have := rowOk_iff r (i + 1) h p x (by simpa using hx) (by omega)
        rwa [show i + 1 + p = i + (p + 1) from by omega] at this
theorem colOk_iff {all : List Oper} {B : List Nat} : ∀ (l : List Oper) (j : Nat), colOk all B l j = true → ∀ p y, l[p]? = some y → rowOk all B y (j + p) all 0 = true
  | [], _, _, p, y, h => by simp at h
  | z :: r, j, h, p, y, hy => by
    cases hp : rowOk all B z j all 0 with
    | false => rw [colOk, hp] at h; cases h
    | true =>
      rw [colOk, hp] at h
      cases p with
      | zero => simp at hy; subst hy; exact hp
      | succ p =>
        have := colOk_iff r (j + 1) h p y (by simpa using hy)
        rwa [show j + 1 + p = j + (p + 1) from by omega] at this
theorem edgesOk_iff : ∀ (l : List Oper) (j : Nat), edgesOk l j = true → ∀ p o, l[p]? = some o → ∀ e ∈ o.after.toList, Region.binds .any e = true → e.on < j + p
  | [], _, _, p, o, h => by simp at h
  | z :: r, j, h, p, o, ho => by
    cases hp : allB (fun e : Edge => cond (Region.binds .any e) (Nat.blt e.on j) true) z.after.toList with
    | false => rw [edgesOk, hp] at h; cases h
    | true =>
      rw [edgesOk, hp] at h
      cases p with
      | zero =>
        simp at ho; subst ho
        intro e he hb
        have := allB_iff.1 hp e he
        rw [hb] at this
        have : e.on + 1 ≤ j := by simpa [Nat.blt] using this
        omega
      | succ p =>
        intro e he hb
        have := edgesOk_iff r (j + 1) h p o (by simpa using ho) e he hb
        omega

/-- Two operations of which one writes what the other names hang on one another. -/
theorem draw_pair {ops : List Oper} (h : drawOk ops = true) {i j : Nat} {x y : Oper} (hx : ops[i]? = some x) (hy : ops[j]? = some y) (hlt : i < j) :
    dep (bef ops []) i j = true ∨ ((∀ t, x.dst = some t → t ∉ namesOf ops y) ∧ (∀ t, y.dst = some t → t ∉ namesOf ops x)) := by
  have hc : colOk ops (bef ops []) ops 0 = true := by
    unfold drawOk at h
    cases he : edgesOk ops 0 <;> simp [he] at h ⊢; exact h
  have h1 := colOk_iff ops 0 hc j y hy
  rw [Nat.zero_add] at h1
  have h2 := rowOk_iff ops 0 h1 i x hx (by omega)
  rw [Nat.zero_add] at h2
  unfold pairOk at h2
  cases hd : dep (bef ops []) i j with
  | true => exact .inl rfl
  | false =>
    rw [hd] at h2
    right
    simp only [cond_false] at h2
    constructor
    · intro t ht hm
      rw [ht] at h2
      simp only [hasN_iff.2 hm, cond_true] at h2
      cases h2
    · intro t ht hm
      cases hc1 : (match x.dst with | some t => hasN (namesOf ops y) t | none => false) with
      | true => rw [hc1] at h2; cases h2
      | false =>
        rw [hc1, ht] at h2
        simp only [hasN_iff.2 hm, cond_true, cond_false] at h2
        cases h2
theorem draw_edge {ops : List Oper} (h : drawOk ops = true) {j : Nat} {o : Oper} (ho : ops[j]? = some o) {e : Edge} (he : e ∈ o.after.toList) (hb : Region.binds .any e = true) : e.on < j := by
  have hc : edgesOk ops 0 = true := by
    unfold drawOk at h
    cases he : edgesOk ops 0 <;> simp [he] at h ⊢
  have := edgesOk_iff ops 0 hc j o ho e he hb
  omega
theorem barrier_iff {B : List Nat} {m k : Nat} (h : barrier B m k = true) {i j : Nat} (hi : i < m) (hj : m ≤ j) (hjk : j < m + k) : dep B i j = true := by
  have := allB_iff.1 h j (by simp only [List.mem_map, List.mem_range]; exact ⟨j - m, by omega, by omega⟩)
  have := Nat.eq_of_beq_eq_true this
  have h2 : (Nat.land (B.getD j 0) (2 ^ m - 1)).testBit i = (2 ^ m - 1).testBit i := by rw [this]
  rw [show Nat.land (B.getD j 0) (2 ^ m - 1) = (B.getD j 0) &&& (2 ^ m - 1) from rfl, Nat.testBit_and, Nat.testBit_two_pow_sub_one] at h2
  simpa [hi, dep] using h2
end Go.Jac
