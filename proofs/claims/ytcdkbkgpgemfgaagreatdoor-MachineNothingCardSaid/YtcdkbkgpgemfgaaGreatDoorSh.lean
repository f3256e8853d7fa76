/- Rows among a law's arguments. -/
import Derived.Test.YtcdkbkgpgemfgaaGreatDoorSf
namespace Go.Jac
open Go
theorem hw_put {w : World} {l : Nat} {o : Obj} (h : l < w.heap.size) : hw (World.put' w l o) = (hw w).set l o := by
  funext i
  simp only [hw, Hp.set, World.put', Array.getElem?_setIfInBounds]
  by_cases e : l = i
  · subst e; simp [h]
  · rw [if_neg e, if_neg fun h => e h.symm]
theorem Kp.put {w : World} {l : Nat} {o : Obj} : Kp w (World.put' w l o) := ⟨rfl, rfl, rfl, by simp [World.put'], Nat.le_refl _⟩
/-- The parts with these numbers are laid first, in this order. -/
def sel : List Nat → List Nat → List HP → List HP
  | [], _, L => L
  | i :: is, seen, L => match pk (i - (seen.filter fun j => Nat.blt j i).length) L with
    | [] => []
    | A :: M => A :: sel is (i :: seen) M
theorem Sat.sel : ∀ (ix seen : List Nat) {L : List HP} {h : Hp}, Sat L h → Sat (sel ix seen L) h
  | [], _, _, _, s => s
  | i :: is, seen, L, h, s => by
    have s' := s.pick (i - (seen.filter fun j => Nat.blt j i).length)
    unfold Jac.sel
    split
    · trivial
    · rename_i A M e
      rw [e] at s'
      exact s'.under fun h t => Sat.sel is (i :: seen) t
theorem D.sel (ix : List Nat) {w0 w : World} {L : List HP} (d : D w0 L w) : D w0 (Jac.sel ix [] L) w := ⟨d.1.sel ix [], d.2⟩
section
variable {P : Program} {w0 w : World} {L : List HP} {A : WP} {K : Value → WP} {l m : Nat} {o o' : Obj} {r : Loop}
theorem D.at_ (d : D w0 (pts l o :: L) w) : w.heap[l]? = some o := d.1.get
theorem D.put (d : D w0 (pts l o :: L) w) : D w0 (pts l o' :: L) (World.put' w l o') := by
  have h := d.at_
  refine ⟨?_, d.2.trans Kp.put⟩
  rw [hw_put (Array.getElem?_eq_some_iff.1 h).1]
  exact d.1.set
theorem d_beg (d : D w0 (pts l (.loop r) :: L) w) (hr : r.state = .ready) (k : ∀ w', D w0 (pts l (.loop { r with state := .busy }) :: L) w' → A w') : RBeg l A w :=
  ⟨r, d.at_, hr, k _ d.put⟩
theorem d_end0 (d : D w0 (pts l (.loop r) :: L) w) (k : ∀ w', D w0 (pts l (.loop { r with state := .ready, pending := none }) :: L) w' → K (.bool true) w') : REnd l none K w :=
  ⟨r, d.at_, k _ d.put⟩
theorem d_endj {j : Code} (d : D w0 (pts l (.loop r) :: L) w) (k : ∀ w', D w0 (pts l (.loop { r with state := .done, pending := some j }) :: L) w' → K (.bool false) w') : REnd l (some j) K w :=
  ⟨r, d.at_, k _ d.put⟩
theorem d_lv1 (d : D w0 (pts m (.deferred (some [])) :: L) w) (k : ∀ w', D w0 L w' → A w') : LvC (.tuple #[.pointer (some ⟨m, 0, none⟩)]) A w :=
  ⟨d.at_, k _ (d.put (o' := .deferred none)).tail⟩
theorem d_rf0 {k : Nat} {caps : Array Value} {rd : Nat → List Value → (Value → WP) → WP} {K : Value → Option Code → WP} (he : ∀ args w, (callFunc k args).run P w = .ok (.enter k args) w) (d : D w0 L w)
    (h : ∀ m l r0 w1, r0.state = .ready → r0.pending = none → RoundOf P r0 rd → D w0 (pts l (.loop r0) :: pts m (.deferred (some [])) :: L) w1 →
      Cl P k (#[.func (.yield l) #[] #[]] ++ caps) (fun _ w3 => ∃ r L', D w0 (pts l (.loop r) :: L') w3 ∧ sameLp r r0 ∧ r.state ≠ .busy ∧ ∀ w4, D w0 L' w4 → K (.pointer (some ⟨m, 0, none⟩)) r.pending w4) w1) :
    RF0 P (.func (.func k) #[] caps) rd K w := by
  refine ⟨k, caps, rfl, he, fun r0 h1 h2 _ h4 => ?_⟩
  have e : (w.heap.push (.deferred (some []))).push (.loop r0) = ((w.alloc (.deferred (some []))).alloc (.loop r0)).heap := rfl
  have d1 : D w0 (pts w.heap.size (.deferred (some [])) :: L) (w.alloc (.deferred (some []))) := ⟨by rw [hw_alloc]; exact Sat.new (hw_none w) d.1, d.2.trans (Kp.alloc _ _)⟩
  have hs : (w.alloc (.deferred (some []))).heap.size = w.heap.size + 1 := by show (w.heap.push _).size = _; exact Array.size_push _
  have d2 : D w0 (pts (w.heap.size + 1) (.loop r0) :: pts w.heap.size (.deferred (some [])) :: L) ((w.alloc (.deferred (some []))).alloc (.loop r0)) :=
    ⟨by rw [hw_alloc, ← hs]; exact Sat.new (hw_none _) d1.1, d1.2.trans (Kp.alloc _ _)⟩
  refine (h w.heap.size (w.heap.size + 1) r0 _ h1 h2 h4 d2).mono ?_
  rintro _ w3 ⟨r, L', d3, hs, hb, hk⟩
  exact ⟨r, d3.at_, hs, hb, hk _ (d3.put (o' := .loop { r with state := .exhausted })).tail⟩
theorem y_ok {r0 : Loop} {rd : Nat → List Value → (Value → WP) → WP} {args : List Value} (hr : RoundOf P r0 rd) (d : D w0 (pts l (.loop r0) :: L) w) (h : rd l args K w) : FnV P (.func (.yield l) #[] #[]) args.toArray K w :=
  hr l r0 args K w d.at_ rfl rfl rfl rfl rfl h _ rfl
theorem sameLp.refl (r : Loop) : sameLp r r := ⟨rfl, rfl, rfl, rfl, rfl, rfl⟩
theorem loop_eta {r : Loop} (h1 : r.state = .ready) (h2 : r.pending = none) : { { r with state := .busy } with state := .ready, pending := none } = r := by
  cases r; simp_all
end
end Go.Jac
namespace Go.Jac
open Go
/-- A row that was there when the walk began: n elements of type e, of es cells each. -/
def OldSl (P : Program) (w0 : World) (e es : Nat) (v : Value) (n : Nat) : Prop :=
  n ≤ maxLen ∧ ((v = .slice none 0 0 ∧ n = 0) ∨ ∃ a c, v = .slice (some a) n c ∧ ∀ i, i < n → ∃ vs : List Value, vs.length = es ∧ (∀ j x, vs[j]? = some x → w0.cell? ((a.add (i * es)).add j) = some x) ∧ Rd P w0 e vs)
theorem osl_of {P : Program} {w0 : World} {t e es : Nat} {v : Value} (ht : P.underlying t = some (.slice e)) (he : P.cellsOf e = es) (h : Rd P w0 t [v]) : ∃ n, OldSl P w0 e es v n := by
  rcases h.slice ht with h | ⟨a, len, cap, h, hl, hc, hx⟩
  · cases h
    exact ⟨0, Nat.zero_le _, .inl ⟨rfl, rfl⟩⟩
  · cases h
    rw [he] at hx
    exact ⟨len, Nat.le_trans hl hc, .inr ⟨a, cap, rfl, hx⟩⟩
section
variable {P : Program} {w0 w : World} {L : List HP} {K : Value → WP} {e es n : Nat} {v : Value} {i : Int}
theorem OldSl.len (h : OldSl P w0 e es v n) (k : K (.int .i64 n) w) : LenS v K w := by
  rcases h.2 with ⟨rfl, rfl⟩ | ⟨a, c, rfl, _⟩
  · exact k
  · exact k
theorem OldSl.elem (h : OldSl P w0 e es v n) (h0 : 0 ≤ i) (h1 : i < n) : ∃ a, (∀ K : Value → WP, ∀ w, K (.pointer (some a)) w → IA es v (.int .i64 i) K w) ∧ ∃ vs : List Value, vs.length = es ∧ (∀ j x, vs[j]? = some x → w0.cell? (a.add j) = some x) ∧ Rd P w0 e vs := by
  rcases h.2 with ⟨_, rfl⟩ | ⟨a, c, rfl, hx⟩
  · omega
  · exact ⟨a.add (i.toNat * es), fun K w hk => old_ia h0 h1 hk, hx i.toNat (by omega)⟩
end
end Go.Jac
