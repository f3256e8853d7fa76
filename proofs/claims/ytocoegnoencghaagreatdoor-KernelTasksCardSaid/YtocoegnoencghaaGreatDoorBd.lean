/- A region whose order is open: one walk in the order of the text serves every order, where what is not forced into a row only reads. -/
import Derived.Test.YtocoegnoencghaaGreatDoorBc
namespace Go.Jac
open Go

/-! ### Which operations hang on which -/
def maskOf (acc : List Nat) (o : Oper) : Nat :=
  o.after.toList.foldl (fun s e => cond (Region.binds .any e) (s ||| 2 ^ e.on ||| acc.getD e.on 0) s) 0
def bef : List Oper → List Nat → List Nat
  | [], acc => acc
  | o :: r, acc => bef r (acc ++ [maskOf acc o])
def dep (B : List Nat) (i j : Nat) : Bool := (B.getD j 0).testBit i

theorem bef_split : ∀ (l : List Oper) (acc : List Nat), ∃ t, bef l acc = acc ++ t ∧ t.length = l.length
  | [], acc => ⟨[], by simp [bef]⟩
  | o :: r, acc => by
    obtain ⟨t, ht, hl⟩ := bef_split r (acc ++ [maskOf acc o])
    exact ⟨maskOf acc o :: t, by rw [bef, ht]; simp, by simp [hl]⟩
theorem bef_entry : ∀ (l : List Oper) (acc : List Nat) (p : Nat) (o : Oper), l[p]? = some o → ∃ acc' t, (bef l acc).getD (acc.length + p) 0 = maskOf acc' o ∧ bef l acc = acc' ++ t ∧ acc'.length = acc.length + p
  | [], _, _, _, h => by simp at h
  | o :: r, acc, 0, o', h => by
    simp at h; subst h
    obtain ⟨t, ht, _⟩ := bef_split r (acc ++ [maskOf acc o])
    refine ⟨acc, maskOf acc o :: t, ?_, by rw [bef, ht]; simp, by simp⟩
    rw [bef, ht]; simp [List.getD_eq_getElem?_getD]
  | o :: r, acc, p + 1, o', h => by
    obtain ⟨acc', t, h1, h2, h3⟩ := bef_entry r (acc ++ [maskOf acc o]) p o' (by simpa using h)
    refine ⟨acc', t, ?_, by rw [bef]; exact h2, by rw [h3]; simp; omega⟩
    rw [bef, ← h1]; congr 1; simp; omega
theorem mask_bit {acc : List Nat} {q : Nat} : ∀ (es : List Edge) (s : Nat), (es.foldl (fun s e => cond (Region.binds .any e) (s ||| 2 ^ e.on ||| acc.getD e.on 0) s) s).testBit q = true →
    s.testBit q = true ∨ ∃ e ∈ es, Region.binds .any e = true ∧ (e.on = q ∨ (acc.getD e.on 0).testBit q = true)
  | [], s, h => .inl h
  | e :: es, s, h => by
    simp only [List.foldl_cons] at h
    rcases mask_bit es _ h with h | ⟨e', he, hb⟩
    · cases hb : Region.binds .any e with
      | false => rw [hb] at h; exact .inl h
      | true =>
        rw [hb] at h
        simp only [cond_true, Nat.testBit_or, Bool.or_eq_true, Nat.testBit_two_pow, decide_eq_true_eq] at h
        rcases h with (h | h) | h
        · exact .inl h
        · exact .inr ⟨e, by simp, hb, .inl h⟩
        · exact .inr ⟨e, by simp, hb, .inr h⟩
    · exact .inr ⟨e', by simp [he], hb⟩
theorem dep_step {l : List Oper} {q j : Nat} (h : dep (bef l []) q j = true) : ∃ o, l[j]? = some o ∧ ∃ e ∈ o.after.toList, Region.binds .any e = true ∧ (e.on = q ∨ dep (bef l []) q e.on = true) := by
  unfold dep at h
  cases ho : l[j]? with
  | none =>
    obtain ⟨t, ht, hl⟩ := bef_split l []
    rw [ht] at h
    have : ([] ++ t).getD j 0 = 0 := by
      rw [List.getD_eq_getElem?_getD, List.getElem?_eq_none]
      · rfl
      · simp [hl]; exact List.getElem?_eq_none_iff.1 ho
    rw [this] at h; simp at h
  | some o =>
    obtain ⟨acc', t, h1, h2, h3⟩ := bef_entry l [] j o ho
    simp only [List.length_nil, Nat.zero_add] at h1 h3
    rw [h1] at h
    rcases mask_bit _ _ h with h | ⟨e, he, hb, h⟩
    · simp at h
    · refine ⟨o, rfl, e, he, hb, h.imp id fun h => ?_⟩
      unfold dep
      rw [h2]
      by_cases hlt : e.on < acc'.length
      · rw [List.getD_eq_getElem?_getD] at h ⊢
        rw [List.getElem?_append_left hlt]; exact h
      · rw [List.getD_eq_getElem?_getD, List.getElem?_eq_none (by omega)] at h; simp at h

/-- What an operation names. -/
def namesOf (all : List Oper) (o : Oper) : List Nat :=
  o.dst.toList ++ (readsOf o ++ (match o.guard with | some (j, _) => (dstAt all j).toList | none => []))
def pairOk (all : List Oper) (x y : Oper) (d : Bool) : Bool :=
  cond d true (cond (match x.dst with | some t => hasN (namesOf all y) t | none => false) false (cond (match y.dst with | some t => hasN (namesOf all x) t | none => false) false true))
def rowOk (all : List Oper) (B : List Nat) (y : Oper) (j : Nat) : List Oper → Nat → Bool
  | [], _ => true
  | x :: r, i => cond (Nat.blt i j) (cond (pairOk all x y (dep B i j)) (rowOk all B y j r (i + 1)) false) true
def colOk (all : List Oper) (B : List Nat) : List Oper → Nat → Bool
  | [], _ => true
  | y :: r, j => cond (rowOk all B y j all 0) (colOk all B r (j + 1)) false
def edgesOk : List Oper → Nat → Bool
  | [], _ => true
  | o :: r, j => cond (allB (fun e : Edge => cond (Region.binds .any e) (Nat.blt e.on j) true) o.after.toList) (edgesOk r (j + 1)) false
/-- Whatever lies from m on hangs on all that lies ahead of m. -/
def barrier (B : List Nat) (m k : Nat) : Bool := allB (fun j => Nat.beq (Nat.land (B.getD j 0) (2 ^ m - 1)) (2 ^ m - 1)) ((List.range k).map (· + m))
/-- The segments: ends at each barrier. -/
def segs (B : List Nat) : List Oper → Nat → List Oper → List (List Oper)
  | [], _, [] => []
  | [], _, cur => [cur]
  | o :: r, m, cur => cond (barrier B (m + 1) r.length) ((cur ++ [o]) :: segs B r (m + 1) []) (segs B r (m + 1) (cur ++ [o]))
def drawOk (ops : List Oper) : Bool := cond (edgesOk ops 0) (colOk ops (bef ops []) ops 0) false

theorem rowOk_iff {all : List Oper} {B : List Nat} {y : Oper} {j : Nat} : ∀ (l : List Oper) (i : Nat), rowOk all B y j l i = true → ∀ p x, l[p]? = some x → i + p < j → pairOk all x y (dep B (i + p) j) = true
  | [], _, _, p, x, h, _ => by simp at h
  | z :: r, i, h, p, x, hx, hlt => by
    have hb : Nat.blt i j = true := by simp [Nat.blt]; omega
    rw [rowOk, hb] at h
    cases hp : pairOk all z y (dep B i j) with
    | false => rw [hp] at h; cases h
    | true =>
      rw [hp] at h
      cases p with
      | zero => simp at hx; subst hx; exact hp
      | succ p =>
        have := rowOk_iff r (i + 1) h p x (by simpa using hx) (by omega)
        rwa [show i + 1 + p = i + (p + 1) from by omega] at this
theorem colOk_iff {all : List Oper} {B : List Nat} : ∀ (l : List Oper) (j : Nat), colOk all B l j = true → ∀ p y, l[p]? = some y → rowOk all B y (j + p) all 0 = true
  | [], _, _, p, y, h => by simp at h
  | z :: r, j, h, p, y, hy => by
    cases hp : rowOk all B z j all 0 with
    | false => rw [colOk, hp] at h; cases h
    | true =>
      rw [colOk, hp] at h
      cases p with
      | zero => simp at hy; subst hy; exact hp
      | succ p =>
        have := colOk_iff r (j + 1) h p y (by simpa using hy)
        rwa [show j + 1 + p = j + (p + 1) from by omega] at this
theorem edgesOk_iff : ∀ (l : List Oper) (j : Nat), edgesOk l j = true → ∀ p o, l[p]? = some o → ∀ e ∈ o.after.toList, Region.binds .any e = true → e.on < j + p
  | [], _, _, p, o, h => by simp at h
  | z :: r, j, h, p, o, ho => by
    cases hp : allB (fun e : Edge => cond (Region.binds .any e) (Nat.blt e.on j) true) z.after.toList with
    | false => rw [edgesOk, hp] at h; cases h
    | true =>
      rw [edgesOk, hp] at h
      cases p with
      | zero =>
        simp at ho; subst ho
        intro e he hb
        have := allB_iff.1 hp e he
        rw [hb] at this
        have : e.on + 1 ≤ j := by simpa [Nat.blt] using this
        omega
      | succ p =>
        intro e he hb
        have := edgesOk_iff r (j + 1) h p o (by simpa using ho) e he hb
        omega

/-- Two operations of which one writes what the other names hang on one another. -/
theorem draw_pair {ops : List Oper} (h : drawOk ops = true) {i j : Nat} {x y : Oper} (hx : ops[i]? = some x) (hy : ops[j]? = some y) (hlt : i < j) :
    dep (bef ops []) i j = true ∨ ((∀ t, x.dst = some t → t ∉ namesOf ops y) ∧ (∀ t, y.dst = some t → t ∉ namesOf ops x)) := by
  have hc : colOk ops (bef ops []) ops 0 = true := by
    unfold drawOk at h
    cases he : edgesOk ops 0 <;> simp [he] at h ⊢; exact h
  have h1 := colOk_iff ops 0 hc j y hy
  rw [Nat.zero_add] at h1
  have h2 := rowOk_iff ops 0 h1 i x hx (by omega)
  rw [Nat.zero_add] at h2
  unfold pairOk at h2
  cases hd : dep (bef ops []) i j with
  | true => exact .inl rfl
  | false =>
    rw [hd] at h2
    right
    simp only [cond_false] at h2
    constructor
    · intro t ht hm
      rw [ht] at h2
      simp only [hasN_iff.2 hm, cond_true] at h2
      cases h2
    · intro t ht hm
      cases hc1 : (match x.dst with | some t => hasN (namesOf ops y) t | none => false) with
      | true => rw [hc1] at h2; cases h2
      | false =>
        rw [hc1, ht] at h2
        simp only [hasN_iff.2 hm, cond_true, cond_false] at h2
        cases h2
theorem draw_edge {ops : List Oper} (h : drawOk ops = true) {j : Nat} {o : Oper} (ho : ops[j]? = some o) {e : Edge} (he : e ∈ o.after.toList) (hb : Region.binds .any e = true) : e.on < j := by
  have hc : edgesOk ops 0 = true := by
    unfold drawOk at h
    cases he : edgesOk ops 0 <;> simp [he] at h ⊢
  have := edgesOk_iff ops 0 hc j o ho e he hb
  omega
theorem barrier_iff {B : List Nat} {m k : Nat} (h : barrier B m k = true) {i j : Nat} (hi : i < m) (hj : m ≤ j) (hjk : j < m + k) : dep B i j = true := by
  have := allB_iff.1 h j (by simp only [List.mem_map, List.mem_range]; exact ⟨j - m, by omega, by omega⟩)
  have := Nat.eq_of_beq_eq_true this
  have h2 : (Nat.land (B.getD j 0) (2 ^ m - 1)).testBit i = (2 ^ m - 1).testBit i := by rw [this]
  rw [show Nat.land (B.getD j 0) (2 ^ m - 1) = (B.getD j 0) &&& (2 ^ m - 1) from rfl, Nat.testBit_and, Nat.testBit_two_pow_sub_one] at h2
  simpa [hi, dep] using h2
end Go.Jac
