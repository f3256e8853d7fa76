/- Several texts of this session's own, joined: Sa, Sb, Sc, Sd, Se, Sf, Sg, Sh, Sk, Sl, Sm, Sn, Su, Sq, So, Sv, Sy, Sw, Sp, Sz, Sx, Sj, Si, R. -/
import Derived.Test.YtgkbbihaaichbaaYa
import Derived.IntWalk
import Derived.Below
import Derived.RowKit3
import Derived.OpenShut
import Derived.Lib.SliceRun
import Derived.Laws.OwnMore
import Derived.DataElems
import Derived.Shelf.SlSortCmp.WholeK
import Derived.Shelf.SlSortCmp.NoneTotal
import Derived.Test.YtgkbbihaaichbaaYb
import Derived.Maps.RangeRun
import Derived.Lib.AppendZerosOnto
import Derived.Lib.Overlaps
import Derived.Lib.MinMax
import Derived.Laws.Slices
import Derived.Shelf.SortG.Plain
import Derived.Shelf.SortG.SortNone
import Derived.Test.YtgkbbihaaichbaaProg
namespace Go.Jac
open Go

abbrev Hp := Nat → Option Obj
abbrev HP := Hp → Prop
def hw (w : World) : Hp := fun b => w.heap[b]?
def Split (h h1 h2 : Hp) : Prop := ∀ b, (h1 b = none ∧ h b = h2 b) ∨ (h2 b = none ∧ h b = h1 b)
def Sat : List HP → Hp → Prop
  | [], _ => True
  | A :: L, h => ∃ h1 h2, Split h h1 h2 ∧ A h1 ∧ Sat L h2
def pts (b : Nat) (o : Obj) : HP := fun h => h b = some o
def cel (b : Nat) (t : TypeId) (cs : List Value) : HP := pts b (.cells cs.toArray t (0, 0))
def ex {α : Type} (A : α → HP) : HP := fun h => ∃ x, A x h
def pr (p : Prop) : HP := fun _ => p
def sat (L : List HP) : HP := Sat L
def Hp.set (h : Hp) (b : Nat) (o : Obj) : Hp := fun i => if i = b then some o else h i
def hE : Hp := fun _ => none

theorem Split.comm {h h1 h2 : Hp} (s : Split h h1 h2) : Split h h2 h1 := fun b => (s b).symm
theorem Split.right (h : Hp) : Split h hE h := fun _ => .inl ⟨rfl, rfl⟩
theorem Split.l {h h1 h2 : Hp} (s : Split h h1 h2) {b : Nat} {o : Obj} (g : h1 b = some o) : h b = some o := by
  rcases s b with ⟨h0, _⟩ | ⟨_, e⟩
  · rw [h0] at g; cases g
  · rw [e]; exact g
theorem Split.r {h h1 h2 : Hp} (s : Split h h1 h2) {b : Nat} {o : Obj} (g : h2 b = some o) : h b = some o := s.comm.l g
theorem Split.off {h h1 h2 : Hp} (s : Split h h1 h2) {b : Nat} {o : Obj} (g : h1 b = some o) : h2 b = none := by
  rcases s b with ⟨h0, _⟩ | ⟨e, _⟩
  · rw [h0] at g; cases g
  · exact e
def orH (h1 h2 : Hp) : Hp := fun b => (h1 b).or (h2 b)
/-- (a · (b · c)) as ((a · b) · c). -/
theorem Split.join {h a r b c : Hp} (s : Split h a r) (t : Split r b c) : Split h (orH a b) c ∧ Split (orH a b) a b := by
  refine ⟨fun i => ?_, fun i => ?_⟩
  · rcases s i with ⟨e1, e⟩ | ⟨e1, e⟩
    · rcases t i with ⟨f1, f⟩ | ⟨f1, f⟩
      · left; simp [orH, e1, f1, e, f]
      · right; simp [orH, e1, f1, e, f]
    · have hb : b i = none := by
        rcases t i with ⟨f1, _⟩ | ⟨_, f⟩
        · exact f1
        · rw [← f]; exact e1
      have hc : c i = none := by
        rcases t i with ⟨_, f⟩ | ⟨f1, _⟩
        · rw [← f]; exact e1
        · exact f1
      right; simp [orH, hb, hc, e]
  · cases ha : a i with
    | none => left; simp [orH, ha]
    | some o =>
      right
      have hr := s.off ha
      have hb : b i = none := by
        rcases t i with ⟨f1, _⟩ | ⟨_, f⟩
        · exact f1
        · rw [← f]; exact hr
      simp [orH, ha, hb]
/-- (a · (b · c)) as (b · (a · c)). -/
theorem Split.assoc {h h1 h2 h3 h4 : Hp} (s : Split h h1 h2) (t : Split h2 h3 h4) : ∃ h', Split h h3 h' ∧ Split h' h1 h4 := by
  obtain ⟨x, y⟩ := s.join t.comm
  exact ⟨_, x.comm, y⟩
theorem orH_l {h1 h2 : Hp} {b : Nat} {o : Obj} (g : h1 b = some o) : orH h1 h2 b = some o := by simp [orH, g]

theorem Sat.swap {A B : HP} {L : List HP} {h : Hp} (s : Sat (A :: B :: L) h) : Sat (B :: A :: L) h := by
  obtain ⟨h1, h2, s1, a, h3, h4, s2, b, l⟩ := s
  obtain ⟨h', t1, t2⟩ := s1.assoc s2
  exact ⟨h3, h', t1, b, h1, h4, t2, a, l⟩
theorem Sat.under {A : HP} {L M : List HP} {h : Hp} (s : Sat (A :: L) h) (f : ∀ h, Sat L h → Sat M h) : Sat (A :: M) h := by
  obtain ⟨h1, h2, s1, a, l⟩ := s
  exact ⟨h1, h2, s1, a, f _ l⟩
theorem Sat.hd {A B : HP} {L : List HP} {h : Hp} (s : Sat (A :: L) h) (f : ∀ h, A h → B h) : Sat (B :: L) h := by
  obtain ⟨h1, h2, s1, a, l⟩ := s
  exact ⟨h1, h2, s1, f _ a, l⟩
/-- The i-th part is laid first. -/
def pk : Nat → List HP → List HP
  | 0, L => L
  | _ + 1, [] => []
  | i + 1, A :: L => match pk i L with
    | [] => [A]
    | B :: M => B :: A :: M
theorem Sat.pick (i : Nat) {L : List HP} {h : Hp} (s : Sat L h) : Sat (pk i L) h := by
  induction i generalizing L h with
  | zero => exact s
  | succ i ih =>
    cases L with
    | nil => exact s
    | cons A L =>
      unfold pk
      cases hp : pk i L with
      | nil =>
        refine s.under fun h' s' => ?_
        trivial
      | cons B M =>
        refine Sat.swap (s.under fun h' s' => ?_)
        rw [← hp]; exact ih s'
/-- The first part is laid at place i. -/
def pb : Nat → List HP → List HP
  | 0, L => L
  | _ + 1, [] => []
  | _ + 1, [A] => [A]
  | i + 1, A :: B :: L => B :: pb i (A :: L)
theorem Sat.back (i : Nat) {L : List HP} {h : Hp} (s : Sat L h) : Sat (pb i L) h := by
  induction i generalizing L h with
  | zero => exact s
  | succ i ih =>
    match L, s with
    | [], s => exact s
    | [A], s => exact s
    | A :: B :: L, s => exact s.swap.under fun h' s' => ih s'
theorem Sat.tl {A : HP} {L : List HP} {h : Hp} (s : Sat (A :: L) h) : ∃ h', Sat L h' ∧ ∀ b o, h' b = some o → h b = some o := by
  obtain ⟨h1, h2, s1, a, l⟩ := s
  exact ⟨h2, l, fun b o => s1.r⟩
/-- Parts may be forgotten: a heap of fewer blocks serves where more of them lie. -/
theorem Sat.grow {L : List HP} : ∀ {h h' : Hp}, Sat L h → (∀ b o, h b = some o → h' b = some o) → Sat (L ++ [pr True]) h' := by
  induction L with
  | nil => intro h h' _ _; exact ⟨hE, h', Split.right _, trivial, trivial⟩
  | cons A L ih =>
    intro h h' s g
    obtain ⟨h1, h2, s1, a, l⟩ := s
    refine ⟨h1, fun b => if (h1 b).isSome then none else h' b, fun b => ?_, a, ih l fun b o hb => ?_⟩
    · cases hb : h1 b with
      | none => left; simp [hb]
      | some o => right; exact ⟨by simp [hb], g b o (s1.l hb)⟩
    · have : h1 b = none := s1.comm.off hb
      simp only [this, Option.isSome_none, Bool.false_eq_true, if_false]
      exact g b o (s1.r hb)
theorem Sat.drop1 {A : HP} {L : List HP} {h : Hp} (s : Sat (A :: L) h) : Sat (pr True :: L) h := s.hd fun _ _ => trivial
theorem Sat.ex_iff {α : Type} {A : α → HP} {L : List HP} {h : Hp} : Sat (ex A :: L) h ↔ ∃ x, Sat (A x :: L) h := by
  constructor
  · rintro ⟨h1, h2, s, ⟨x, a⟩, l⟩; exact ⟨x, h1, h2, s, a, l⟩
  · rintro ⟨x, h1, h2, s, a, l⟩; exact ⟨h1, h2, s, ⟨x, a⟩, l⟩
theorem Sat.pr_mk {p : Prop} {L : List HP} {h : Hp} (hp : p) (s : Sat L h) : Sat (pr p :: L) h := ⟨hE, h, Split.right _, hp, s⟩
theorem Sat.pr_out {p : Prop} {L : List HP} {h : Hp} (s : Sat (pr p :: L) h) : p := by
  obtain ⟨h1, h2, s, a, l⟩ := s; exact a
theorem Split.into {h h1 h2 h3 h4 : Hp} (s : Split h h1 h2) (t : Split h1 h3 h4) : ∃ h', Split h h3 h' ∧ Split h' h4 h2 := by
  obtain ⟨h', a, b⟩ := Split.assoc s.comm t
  exact ⟨h', a, b.comm⟩
/-- A part that is made of parts. -/
theorem Sat.open_ {M : List HP} : ∀ {L : List HP} {h : Hp}, Sat (sat M :: L) h → Sat (M ++ (pr True :: L)) h := by
  induction M with
  | nil => intro L h s; exact s.hd fun _ _ => trivial
  | cons A M ih =>
    intro L h s
    obtain ⟨h1, h2, s1, ⟨h3, h4, s2, a, m⟩, l⟩ := s
    obtain ⟨h', t1, t2⟩ := s1.into s2
    exact ⟨h3, h', t1, a, ih ⟨h4, h2, t2, m, l⟩⟩
theorem Sat.close {M : List HP} : ∀ {L : List HP} {h : Hp}, Sat (M ++ L) h → Sat (sat M :: L) h := by
  induction M with
  | nil => intro L h s; exact ⟨hE, h, Split.right _, trivial, s⟩
  | cons A M ih =>
    intro L h s
    obtain ⟨h1, h2, s1, a, s'⟩ := s
    obtain ⟨h3, h4, s2, m, l⟩ := ih s'
    obtain ⟨x, y⟩ := s1.join s2
    exact ⟨_, h4, x, ⟨h1, h3, y, a, m⟩, l⟩

theorem Sat.get {b : Nat} {o : Obj} {L : List HP} {h : Hp} (s : Sat (pts b o :: L) h) : h b = some o := by
  obtain ⟨h1, h2, s1, a, _⟩ := s
  exact s1.l a
theorem Sat.g0 {b : Nat} {o : Obj} {L : List HP} {h : Hp} (s : Sat (pts b o :: L) h) : h b = some o := s.get
theorem Sat.g1 {A : HP} {b : Nat} {o : Obj} {L : List HP} {h : Hp} (s : Sat (A :: pts b o :: L) h) : h b = some o := s.swap.get
theorem Sat.g2 {A B : HP} {b : Nat} {o : Obj} {L : List HP} {h : Hp} (s : Sat (A :: B :: pts b o :: L) h) : h b = some o := (s.pick 2 : Sat (pts b o :: A :: B :: L) h).get
theorem Sat.g3 {A B C : HP} {b : Nat} {o : Obj} {L : List HP} {h : Hp} (s : Sat (A :: B :: C :: pts b o :: L) h) : h b = some o := (s.pick 3 : Sat (pts b o :: A :: B :: C :: L) h).get
theorem Sat.g4 {A B C D : HP} {b : Nat} {o : Obj} {L : List HP} {h : Hp} (s : Sat (A :: B :: C :: D :: pts b o :: L) h) : h b = some o := (s.pick 4 : Sat (pts b o :: A :: B :: C :: D :: L) h).get
theorem Sat.set {b : Nat} {o o' : Obj} {L : List HP} {h : Hp} (s : Sat (pts b o :: L) h) : Sat (pts b o' :: L) (h.set b o') := by
  obtain ⟨h1, h2, s1, a, l⟩ := s
  refine ⟨h1.set b o', h2, fun i => ?_, by simp [pts, Hp.set], l⟩
  by_cases e : i = b
  · subst e
    right
    exact ⟨s1.off a, by simp [Hp.set]⟩
  · rcases s1 i with ⟨e1, e2⟩ | ⟨e1, e2⟩
    · left; simp [Hp.set, e, e1, e2]
    · right; simp [Hp.set, e, e1, e2]
theorem Sat.new {n : Nat} {o : Obj} {L : List HP} {h : Hp} (hn : h n = none) (s : Sat L h) : Sat (pts n o :: L) (h.set n o) := by
  refine ⟨fun i => if i = n then some o else none, h, fun i => ?_, by simp [pts], s⟩
  by_cases e : i = n
  · subst e; right; simp [Hp.set, hn]
  · left; simp [Hp.set, e]
theorem Sat.ne {b b' : Nat} {o o' : Obj} {L : List HP} {h : Hp} (s : Sat (pts b o :: pts b' o' :: L) h) : b ≠ b' := by
  rintro rfl
  obtain ⟨h1, h2, s1, a, h3, h4, s2, a', _⟩ := s
  have := s1.off a
  rw [s2.l a'] at this
  cases this

/-! ### Worlds -/
/-- What every step keeps. -/
structure Kp (w w' : World) : Prop where
  os : w'.os = w.os
  tape : w'.tape = w.tape
  output : w'.output = w.output
  size : w.heap.size ≤ w'.heap.size
  drawn : w.drawn ≤ w'.drawn
theorem Kp.refl (w : World) : Kp w w := ⟨rfl, rfl, rfl, Nat.le_refl _, Nat.le_refl _⟩
theorem Kp.trans {a b c : World} (h : Kp a b) (k : Kp b c) : Kp a c := ⟨k.os.trans h.os, k.tape.trans h.tape, k.output.trans h.output, Nat.le_trans h.size k.size, Nat.le_trans h.drawn k.drawn⟩
theorem hw_alloc (w : World) (o : Obj) : hw (w.alloc o) = (hw w).set w.heap.size o := by
  funext b
  simp only [hw, Hp.set, World.alloc, Array.getElem?_push]
theorem hw_none (w : World) : hw w w.heap.size = none := by simp [hw]
theorem hw_setCell {w : World} {b o : Nat} {cs : List Value} {t : TypeId} {f : Nat × Nat} (g : hw w b = some (.cells cs.toArray t f)) (v : Value) : hw (w.setCell ⟨b, o, none⟩ v) = (hw w).set b (.cells (cs.set o v).toArray t f) := by
  funext i
  simp only [hw, Hp.set, World.setCell, Array.getElem?_modify]
  by_cases e : b = i
  · subst e
    have g' : w.heap[b]? = some (.cells cs.toArray t f) := g
    simp [g']
  · simp only [e, if_false]
    rw [if_neg fun h => e h.symm]
theorem cell_of {w : World} {b : Nat} {cs : List Value} {t : TypeId} {f : Nat × Nat} (g : hw w b = some (.cells cs.toArray t f)) (o : Nat) : w.cell? ⟨b, o, none⟩ = cs[o]? := by
  have g' : w.heap[b]? = some (.cells cs.toArray t f) := g
  simp [World.cell?, g']
theorem free_of {w : World} {b : Nat} {cs : List Value} {t : TypeId} (g : hw w b = some (.cells cs.toArray t (0, 0))) (o : Nat) : w.frozen? ⟨b, o, none⟩ = false := by
  have g' : w.heap[b]? = some (.cells cs.toArray t (0, 0)) := g
  simp [World.frozen?, g']
theorem add_of (b o n : Nat) : Addr.add ⟨b, o, none⟩ n = ⟨b, o + n, none⟩ := by
  unfold Addr.add
  split
  · rename_i h; subst h; rfl
  · rfl
theorem Kp.setCell (w : World) (a : Addr) (v : Value) : Kp w (w.setCell a v) := ⟨rfl, rfl, rfl, by simp [World.setCell], Nat.le_refl _⟩
theorem Kp.alloc (w : World) (o : Obj) : Kp w (w.alloc o) := ⟨rfl, rfl, rfl, by simp, Nat.le_refl _⟩
theorem Kp.drew (w : World) : Kp w w.drew := ⟨rfl, rfl, rfl, Nat.le_refl _, Nat.le_succ _⟩

/-- A row with some cells written anew from o on. -/
def splice (cs : List Value) (o : Nat) : List Value → List Value
  | [] => cs
  | v :: r => splice (cs.set o v) (o + 1) r
theorem splice_length (o : Nat) (vs cs : List Value) : (splice cs o vs).length = cs.length := by
  induction vs generalizing cs o with
  | nil => rfl
  | cons v r ih => rw [splice, ih]; simp
theorem splice_eq (o : Nat) (vs cs : List Value) (h : o + vs.length ≤ cs.length) : splice cs o vs = cs.take o ++ vs ++ cs.drop (o + vs.length) := by
  induction vs generalizing cs o with
  | nil => simp [splice]
  | cons v r ih =>
    simp only [List.length_cons] at h
    rw [splice, ih (o + 1) (cs.set o v) (by simp; omega)]
    have ho : o < cs.length := by omega
    rw [List.take_succ_eq_append_getElem (by simpa using ho)]
    have h1 : (cs.set o v).take o = cs.take o := by
      rw [List.take_set_of_le (by omega)]
    have h2 : (cs.set o v).drop (o + 1 + r.length) = cs.drop (o + (r.length + 1)) := by
      rw [List.drop_set_of_lt (by omega)]; congr 1; omega
    rw [h1, h2]
    simp

theorem hw_stCells {b o : Nat} {t : TypeId} : ∀ (vs cs : List Value) (i : Nat) (w : World), hw w b = some (.cells cs.toArray t (0, 0)) →
    hw (stCells ⟨b, o, none⟩ vs i w) = (hw w).set b (.cells (splice cs (o + i) vs).toArray t (0, 0))
  | [], cs, i, w, g => by
    funext j
    simp only [stCells, splice, Hp.set]
    split
    · rename_i e; subst e; exact g
    · rfl
  | v :: r, cs, i, w, g => by
    have h1 := hw_setCell (o := o + i) g v
    have g1 : hw (w.setCell ⟨b, o + i, none⟩ v) b = some (.cells (cs.set (o + i) v).toArray t (0, 0)) := by rw [h1]; simp [Hp.set]
    rw [stCells, add_of, hw_stCells r _ (i + 1) _ g1, h1, splice]
    funext j
    simp only [Hp.set]
    split
    · rfl
    · rfl
theorem Kp.stCells (p : Addr) : ∀ (vs : List Value) (i : Nat) (w : World), Kp w (stCells p vs i w)
  | [], _, w => Kp.refl w
  | v :: r, i, w => (Kp.setCell w _ v).trans (Kp.stCells p r (i + 1) _)

/-! ### The combinators that touch memory -/
section
variable {L : List HP} {w : World} {K : Value → WP} {b o n : Nat} {t : TypeId} {cs : List Value} {v : Value}

theorem ld1 (g : hw w b = some (.cells cs.toArray t (0, 0))) (hv : cs[o]? = some v) (k : K v w) : Ld1 (.pointer (some ⟨b, o, none⟩)) K w := ⟨_, v, rfl, (cell_of g o).trans hv, k⟩
theorem ldN (g : hw w b = some (.cells cs.toArray t (0, 0))) (vs : List Value) (hl : vs.length = n) (hv : ∀ j x, vs[j]? = some x → cs[o + j]? = some x) (k : K (.agg vs.toArray) w) : LdN n (.pointer (some ⟨b, o, none⟩)) K w :=
  ⟨_, vs, rfl, hl, fun j x hx => by rw [add_of, cell_of g]; exact hv j x hx, k⟩
theorem st_ok (s : Sat (cel b t cs :: L) (hw w)) (hn : v.cells.size = n) (hl : o + n ≤ cs.length) (h1 : ∀ x ∈ v.cells.toList, x.oneCell' = true)
    (k : ∀ w', Sat (cel b t (splice cs o v.cells.toList) :: L) (hw w') → Kp w w' → K undef w') : St n (.pointer (some ⟨b, o, none⟩)) v K w := by
  have g : hw w b = some (.cells cs.toArray t (0, 0)) := s.get
  refine ⟨_, rfl, hn, fun j x hx => ⟨h1 x (List.mem_of_getElem? hx), ?_, ?_⟩, k _ ?_ (Kp.stCells _ _ _ _)⟩
  · have hj : j < n := by
      have := (List.getElem?_eq_some_iff.1 hx).1
      rw [Array.length_toList, hn] at this; exact this
    rw [add_of, cell_of g]
    exact ⟨_, List.getElem?_eq_getElem (by omega)⟩
  · rw [add_of]; exact free_of g _
  · rw [hw_stCells _ cs 0 w g]
    exact s.set
theorem st1_ok (s : Sat (cel b t cs :: L) (hw w)) (hv : v.cells = #[v]) (hl : o < cs.length) (h1 : v.oneCell' = true)
    (k : ∀ w', Sat (cel b t (cs.set o v) :: L) (hw w') → Kp w w' → K undef w') : St 1 (.pointer (some ⟨b, o, none⟩)) v K w :=
  st_ok s (by rw [hv]; rfl) (by omega) (by rw [hv]; simpa using h1) (by rw [hv]; exact k)
theorem new_ok (s : Sat L (hw w)) (k : ∀ b w', Sat (cel b t cs :: L) (hw w') → Kp w w' → K (.pointer (some ⟨b, 0, none⟩)) w') : New t cs.toArray K w := by
  refine k w.heap.size (w.alloc _) ?_ (Kp.alloc _ _)
  rw [hw_alloc]
  exact Sat.new (hw_none w) s
theorem bsl_ok {elem size len : Nat} {zero : Array Value} {parts : Array (Nat × Value)} (s : Sat L (hw w)) (hs : len * size ≤ 2 ^ 24)
    (hf : Instr.fill (fun i => some (i * size, size)) ((Array.range (len * size)).map (zero[· % zero.size]!)) parts.toList = some cs.toArray)
    (k : ∀ b w', Sat (cel b elem cs :: L) (hw w') → Kp w w' → K (.slice (some ⟨b, 0, none⟩) len len) w') : BSlC elem size zero len parts K w := by
  refine ⟨hs, _, hf, k w.heap.size _ ?_ (Kp.alloc _ _)⟩
  rw [hw_alloc]
  exact Sat.new (hw_none w) s

/-- A slice that owns its row: n elements, whose cells are cs. -/
def Rw (elem es : Nat) (v : Value) (n : Nat) (cs : List Value) : HP := fun h =>
  (v = .slice none 0 0 ∧ n = 0 ∧ cs = []) ∨
  ∃ b cap junk, v = .slice (some ⟨b, 0, none⟩) n cap ∧ n ≤ cap ∧ cs.length = n * es ∧ (cs ++ junk).length = cap * es ∧ h b = some (.cells (cs ++ junk).toArray elem (0, 0))
theorem Rw.nil (elem es : Nat) {h : Hp} (s : Sat L h) : Sat (Rw elem es (.slice none 0 0) 0 [] :: L) h := ⟨hE, h, Split.right _, .inl ⟨rfl, rfl, rfl⟩, s⟩
theorem Rw.len {elem es : Nat} {h : Hp} (s : Sat (Rw elem es v n cs :: L) h) : cs.length = n * es := by
  obtain ⟨h1, h2, _, hr, _⟩ := s
  rcases hr with ⟨_, rfl, rfl⟩ | ⟨b, cap, junk, _, _, hl, _⟩
  · simp
  · exact hl
theorem Rw.shape {elem es : Nat} {h : Hp} (s : Sat (Rw elem es v n cs :: L) h) : ∃ p c, v = .slice p n c ∧ n ≤ c := by
  obtain ⟨h1, h2, _, hr, _⟩ := s
  rcases hr with ⟨rfl, rfl, rfl⟩ | ⟨b, cap, junk, rfl, hle, _⟩
  · exact ⟨_, _, rfl, Nat.le_refl _⟩
  · exact ⟨_, _, rfl, hle⟩
/-- A row that is not empty lies in a block. -/
theorem Rw.block {elem es : Nat} {h : Hp} (s : Sat (Rw elem es v n cs :: L) h) (hn : 0 < n) : ∃ b cap junk, v = .slice (some ⟨b, 0, none⟩) n cap ∧ n ≤ cap ∧ (cs ++ junk).length = cap * es ∧ Sat (cel b elem (cs ++ junk) :: L) h := by
  obtain ⟨h1, h2, s1, hr, l⟩ := s
  rcases hr with ⟨_, rfl, _⟩ | ⟨b, cap, junk, rfl, hle, hl, hl2, hb⟩
  · omega
  · exact ⟨b, cap, junk, rfl, hle, hl2, h1, h2, s1, hb, l⟩
theorem Rw.mk {elem es b cap : Nat} {junk : List Value} {h : Hp} (s : Sat (cel b elem (cs ++ junk) :: L) h) (hle : n ≤ cap) (hl : cs.length = n * es) (hl2 : (cs ++ junk).length = cap * es) : Sat (Rw elem es (.slice (some ⟨b, 0, none⟩) n cap) n cs :: L) h :=
  s.hd fun _ a => .inr ⟨b, cap, junk, rfl, hle, hl, hl2, a⟩

theorem hw_setCells {b : Nat} {t : TypeId} : ∀ (vs cs : List Value) (o : Nat) (w : World), hw w b = some (.cells cs.toArray t (0, 0)) →
    hw (w.setCells b o vs) = (hw w).set b (.cells (splice cs o vs).toArray t (0, 0))
  | [], cs, o, w, g => by
    funext j
    simp only [World.setCells, splice, Hp.set]
    split
    · rename_i e; subst e; exact g
    · rfl
  | v :: r, cs, o, w, g => by
    have h1 := hw_setCell (o := o) g v
    have g1 : hw (w.setCell ⟨b, o, none⟩ v) b = some (.cells (cs.set o v).toArray t (0, 0)) := by rw [h1]; simp [Hp.set]
    rw [World.setCells, hw_setCells r _ (o + 1) _ g1, h1, splice]
    funext j
    simp only [Hp.set]
    split <;> rfl
theorem Kp.setCells (b : Nat) : ∀ (vs : List Value) (o : Nat) (w : World), Kp w (w.setCells b o vs)
  | [], _, w => Kp.refl w
  | v :: r, o, w => (Kp.setCell w _ v).trans (Kp.setCells b r (o + 1) _)
theorem zeros_len (zero : Array Value) (n : Nat) : (Builtin.zeroCells zero n).toList.length = n * zero.size := by
  rw [Array.length_toList, size_zeroCells]

/-- An append to a row of one's own. -/
theorem app_ok {elem es bytes m : Nat} {zero : Array Value} {sv x : Value} {news : List Value} (s : Sat (Rw elem es sv n cs :: L) (hw w)) (hx : SrcV es x m news w) (hz : zero.size = es) (hm : 0 < m) (hb : (n + m) * bytes ≤ 140737488355328) (h63 : n + m < 4611686018427387904)
    (hx2 : ∀ v ∈ news, v.oneCell' = true)
    (k : ∀ sv' w', Sat (Rw elem es sv' (n + m) (cs ++ news) :: L) (hw w') → Kp w w' → K sv' w') : AppC elem es bytes zero sv x K w := by
  have hnl : news.length = m * es := by
    rcases hx with ⟨a, c, rfl, hl, hc, h1⟩ | ⟨c, rfl, rfl, rfl⟩
    · exact hl
    · omega
  have grow : ∀ (base : Option Addr) (sCap : Nat) (olds : List Value), sv = .slice base n sCap → OldV es base n olds w → olds = cs → cs.length = n * es → sCap < n + m → AppC elem es bytes zero sv x K w := by
    rintro base sCap olds rfl ho rfl hlen hg
    refine ⟨base, n, sCap, m, news, rfl, hx, .inr (.inr ⟨olds, ho, hg, by omega, growslice_fits hg hb, fun c hc => k _ _ ?_ ((Kp.drew w).trans (Kp.alloc _ _))⟩)⟩
    have e : ((olds ++ news).toArray ++ Builtin.zeroCells zero (c - (n + m))) = ((olds ++ news) ++ (Builtin.zeroCells zero (c - (n + m))).toList).toArray := by
      apply Array.ext'; simp
    rw [e, hw_alloc]
    have s' : Sat (cel w.drew.heap.size elem ((olds ++ news) ++ (Builtin.zeroCells zero (c - (n + m))).toList) :: Rw elem es (.slice base n sCap) n olds :: L) ((hw w.drew).set w.drew.heap.size (.cells ((olds ++ news) ++ (Builtin.zeroCells zero (c - (n + m))).toList).toArray elem)) := Sat.new (hw_none w.drew) s
    obtain ⟨h1, h2, s1, a, h3, h4, s2, _, l⟩ := s'
    have s'' : Sat (cel w.drew.heap.size elem ((olds ++ news) ++ (Builtin.zeroCells zero (c - (n + m))).toList) :: L) ((hw w.drew).set w.drew.heap.size (.cells ((olds ++ news) ++ (Builtin.zeroCells zero (c - (n + m))).toList).toArray elem)) := by
      exact ⟨_, h4, (s1.join s2).1, orH_l a, l⟩
    refine Rw.mk s'' (by omega) ?_ ?_
    · rw [List.length_append, hlen, hnl, Nat.add_mul]
    · simp only [List.length_append, hlen, hnl, Array.length_toList, size_zeroCells, hz]
      rw [← Nat.add_mul, ← Nat.add_mul]; congr 1; omega
  obtain ⟨h1, h2, s1, hr, l⟩ := s
  rcases hr with ⟨rfl, rfl, rfl⟩ | ⟨b, cap, junk, rfl, hle, hl, hl2, hbk⟩
  · exact grow none 0 [] rfl (.none rfl rfl) rfl (by simp) (by omega)
  · have g : hw w b = some (.cells (cs ++ junk).toArray elem (0, 0)) := s1.l hbk
    by_cases hroom : n + m ≤ cap
    · refine ⟨_, n, cap, m, news, rfl, hx, .inr (.inl ⟨b, 0, rfl, hroom, fun j hj => ?_, fun j hj => free_of g _, k _ _ ?_ (Kp.setCells _ _ _ _)⟩)⟩
      · rw [cell_of g]
        have : 0 + n * es + j < (cs ++ junk).length := by
          rw [hl2]
          have : (n + m) * es ≤ cap * es := Nat.mul_le_mul_right _ hroom
          rw [Nat.add_mul] at this
          omega
        rw [List.getElem?_eq_getElem this]; rfl
      · rw [hw_setCells news (cs ++ junk) _ w g, Nat.zero_add]
        have hfit : n * es + news.length ≤ (cs ++ junk).length := by
          rw [hl2, hnl, ← Nat.add_mul]; exact Nat.mul_le_mul_right _ hroom
        have e : splice (cs ++ junk) (n * es) news = (cs ++ news) ++ junk.drop news.length := by
          rw [splice_eq _ _ _ hfit, ← hl, List.take_left]
          rw [List.drop_append]
          simp
        have s2 : Sat (cel b elem (splice (cs ++ junk) (n * es) news) :: L) ((hw w).set b (.cells (splice (cs ++ junk) (n * es) news).toArray elem (0, 0))) := Sat.set (o := .cells (cs ++ junk).toArray elem (0, 0)) ⟨h1, h2, s1, hbk, l⟩
        rw [e] at s2 ⊢
        refine Rw.mk s2 hroom ?_ ?_
        · rw [List.length_append, hl, hnl, Nat.add_mul]
        · rw [← e, splice_length]; exact hl2
    · exact grow (some ⟨b, 0, none⟩) cap cs rfl (.some _ rfl hl fun j u hu => by
        rw [add_of, cell_of g, Nat.zero_add, List.getElem?_append_left (List.getElem?_eq_some_iff.1 hu).1]; exact hu) rfl hl (by omega)
end
end Go.Jac

namespace Go.Jac
open Go

def iand (k : IntKind) (a b : Int) : Int := k.wrap (BitVec.ofInt k.bits a &&& BitVec.ofInt k.bits b).toNat
def ior (k : IntKind) (a b : Int) : Int := k.wrap (BitVec.ofInt k.bits a ||| BitVec.ofInt k.bits b).toNat
def ixor (k : IntKind) (a b : Int) : Int := k.wrap (BitVec.ofInt k.bits a ^^^ BitVec.ofInt k.bits b).toNat
def iandNot (k : IntKind) (a b : Int) : Int := k.wrap (BitVec.ofInt k.bits a &&& ~~~ BitVec.ofInt k.bits b).toNat
/-- A shift that the kind's bits can hold. -/
def ShOk (b : Int) (k : IntKind) : Prop := 0 ≤ b ∧ b.toNat ≤ k.bits
instance (b : Int) (k : IntKind) : Decidable (ShOk b k) := inferInstanceAs (Decidable (0 ≤ b ∧ b.toNat ≤ k.bits))
section
variable {P : Program} {K : Value → WP} {w : World} {k : IntKind} {a b c : Int}
theorem NilC_p (p : Addr) : NilC (.pointer (some p)) K w = K (.pointer (some p)) w := propext Iff.rfl
theorem NilC_f (f : FuncId) (x y : Array Value) : NilC (.func (.func f) x y) K w = K (.func (.func f) x y) w := propext Iff.rfl
theorem NilC_y (l : Nat) (x y : Array Value) : NilC (.func (.yield l) x y) K w = K (.func (.yield l) x y) w := propext Iff.rfl
theorem FA_p (b o n : Nat) : FA (.pointer (some ⟨b, o, none⟩)) n K w = K (.pointer (some ⟨b, o + n, none⟩)) w := by simp only [FA, add_of]
theorem Ext_t (vs : Array Value) (i : Nat) : Ext (.tuple vs) i K w = (match vs[i]? with | some v => K v w | none => False) := rfl
theorem Ext_20 (a b : Value) : Ext (.tuple #[a, b]) 0 K w = K a w := propext Iff.rfl
theorem Ext_21 (a b : Value) : Ext (.tuple #[a, b]) 1 K w = K b w := propext Iff.rfl
theorem Ext_30 (a b c : Value) : Ext (.tuple #[a, b, c]) 0 K w = K a w := propext Iff.rfl
theorem Ext_31 (a b c : Value) : Ext (.tuple #[a, b, c]) 1 K w = K b w := propext Iff.rfl
theorem Ext_32 (a b c : Value) : Ext (.tuple #[a, b, c]) 2 K w = K c w := propext Iff.rfl
theorem Ext_40 (a b c d : Value) : Ext (.tuple #[a, b, c, d]) 0 K w = K a w := propext Iff.rfl
theorem Ext_41 (a b c d : Value) : Ext (.tuple #[a, b, c, d]) 1 K w = K b w := propext Iff.rfl
theorem Ext_42 (a b c d : Value) : Ext (.tuple #[a, b, c, d]) 2 K w = K c w := propext Iff.rfl
theorem Ext_43 (a b c d : Value) : Ext (.tuple #[a, b, c, d]) 3 K w = K d w := propext Iff.rfl
theorem LenS_s (p : Option Addr) (n c : Nat) : LenS (.slice p n c) K w = K (.int .i64 n) w := propext Iff.rfl
theorem ConvI_i (k k' : IntKind) (n : Int) : ConvI k (.int k' n) K w = K (.int k (k.wrap n)) w := propext Iff.rfl
theorem Cnd_b (c : Bool) (t e : WP) : Cnd (.bool c) t e w = ((c = true → t w) ∧ (c = false → e w)) := by
  apply propext
  constructor
  · rintro ⟨c', h, h1, h2⟩; cases h; exact ⟨h1, h2⟩
  · rintro ⟨h1, h2⟩; exact ⟨c, rfl, h1, h2⟩
theorem Grd_t (c : Bool) (t e : WP) : Grd (.bool c) true t e w = ((c = true → t w) ∧ (c = false → e w)) := by
  apply propext
  constructor
  · rintro ⟨c', h, h1, h2⟩; cases h; exact ⟨h1, h2⟩
  · rintro ⟨h1, h2⟩; exact ⟨c, rfl, h1, h2⟩
theorem Grd_f (c : Bool) (t e : WP) : Grd (.bool c) false t e w = ((c = false → t w) ∧ (c = true → e w)) := by
  apply propext
  constructor
  · rintro ⟨c', h, h1, h2⟩; cases h; exact ⟨h1, h2⟩
  · rintro ⟨h1, h2⟩; exact ⟨c, rfl, h1, h2⟩
theorem BinI_mk {op : BinOp} {k k' : IntKind} {v : Value} (h : intBin op k a k' b = some v) : BinI op (.int k a) (.int k' b) K w = K v w := by
  apply propext
  constructor
  · rintro ⟨_, _, _, _, v', h1, h2, h3, h4⟩
    cases h1; cases h2
    rw [h] at h3; cases h3; exact h4
  · exact fun hk => ⟨_, _, _, _, v, rfl, rfl, h, hk⟩
theorem BinI_add : BinI .add (.int k a) (.int k b) K w = K (.int k (k.wrap (a + b))) w := BinI_mk (by simp [intBin])
theorem BinI_sub : BinI .sub (.int k a) (.int k b) K w = K (.int k (k.wrap (a - b))) w := BinI_mk (by simp [intBin])
theorem BinI_mul : BinI .mul (.int k a) (.int k b) K w = K (.int k (k.wrap (a * b))) w := BinI_mk (by simp [intBin])
theorem BinI_quo (h : (b == 0) = false) : BinI .quo (.int k a) (.int k b) K w = K (.int k (k.wrap (a.tdiv b))) w := BinI_mk (by simp at h; simp [intBin, h])
theorem BinI_rem (h : (b == 0) = false) : BinI .rem (.int k a) (.int k b) K w = K (.int k (a.tmod b)) w := BinI_mk (by simp at h; simp [intBin, h])
theorem BinI_and : BinI .and (.int k a) (.int k b) K w = K (.int k (iand k a b)) w := BinI_mk (by simp [intBin, iand])
theorem BinI_or : BinI .or (.int k a) (.int k b) K w = K (.int k (ior k a b)) w := BinI_mk (by simp [intBin, ior])
theorem BinI_xor : BinI .xor (.int k a) (.int k b) K w = K (.int k (ixor k a b)) w := BinI_mk (by simp [intBin, ixor])
theorem BinI_andNot : BinI .andNot (.int k a) (.int k b) K w = K (.int k (iandNot k a b)) w := BinI_mk (by simp [intBin, iandNot])
theorem BinI_eql : BinI .eql (.int k a) (.int k b) K w = K (.bool (decide (a = b))) w := BinI_mk (by simp [intBin]; rfl)
theorem BinI_neq : BinI .neq (.int k a) (.int k b) K w = K (.bool (!decide (a = b))) w := BinI_mk (by simp [intBin, bne]; rfl)
theorem BinI_lss : BinI .lss (.int k a) (.int k b) K w = K (.bool (decide (a < b))) w := BinI_mk (by simp [intBin])
theorem BinI_leq : BinI .leq (.int k a) (.int k b) K w = K (.bool (decide (a ≤ b))) w := BinI_mk (by simp [intBin])
theorem BinI_gtr : BinI .gtr (.int k a) (.int k b) K w = K (.bool (decide (b < a))) w := BinI_mk (by simp [intBin])
theorem BinI_geq : BinI .geq (.int k a) (.int k b) K w = K (.bool (decide (b ≤ a))) w := BinI_mk (by simp [intBin])
theorem bits_i64 : IntKind.bits .i64 = 64 := rfl
theorem bits_u64 : IntKind.bits .u64 = 64 := rfl
theorem BinI_shl {k' : IntKind} (h : ShOk b k) : BinI .shl (.int k a) (.int k' b) K w = K (.int k (k.wrap (a * 2 ^ b.toNat))) w := BinI_mk (by
  have h2 := h.2; have := h.1
  have : ¬ (b < 0) := by omega
  simp only [intBin, this, if_false, Nat.min_eq_left h2])
theorem BinI_shr {k' : IntKind} (h : ShOk b k) : BinI .shr (.int k a) (.int k' b) K w = K (.int k (a.fdiv (2 ^ b.toNat))) w := BinI_mk (by
  have h2 := h.2; have := h.1
  have : ¬ (b < 0) := by omega
  simp only [intBin, this, if_false, Nat.min_eq_left h2])
theorem Pick_b (c : Bool) (x y : Value) : Pick (.bool c) x y K w = K (cond c x y) w := by cases c <;> rfl
theorem Un_not (c : Bool) : Un .not (.bool c) K w = K (.bool (!c)) w := by
  apply propext
  constructor
  · rintro ⟨v, h, hk⟩
    have := h default default
    simp only [Op.unary, Sem.run_pure, Result.ok.injEq, and_true] at this
    subst this; exact hk
  · exact fun hk => ⟨_, fun _ _ => rfl, hk⟩
theorem Un_neg : Un .neg (.int k a) K w = K (.int k (k.wrap (0 - a))) w := by
  apply propext
  constructor
  · rintro ⟨v, h, hk⟩
    have := h default default
    simp only [Op.unary, Op.intArith, Sem.run_pure, Result.ok.injEq, and_true] at this
    subst this; exact hk
  · exact fun hk => ⟨_, fun _ _ => rfl, hk⟩
theorem EqB_b (n x y : Bool) : EqB n (.bool x) (.bool y) K w = K (.bool (cond n (!(x == y)) (x == y))) w := by
  apply propext
  constructor
  · rintro ⟨_, _, h1, h2, hk⟩; cases h1; cases h2; exact hk
  · exact fun hk => ⟨_, _, rfl, rfl, hk⟩
theorem EqP_mk {n r : Bool} {x y : Value} (h : ptrEq x y = some r) : EqP n x y K w = K (.bool (cond n (!r) r)) w := by
  apply propext
  constructor
  · rintro ⟨r', h', hk⟩; rw [h] at h'; cases h'; exact hk
  · exact fun hk => ⟨r, h, hk⟩
theorem EqP_pn (n : Bool) (p : Addr) : EqP n (.pointer (some p)) (.pointer none) K w = K (.bool n) w := by rw [EqP_mk (r := false) rfl]; cases n <;> rfl
theorem EqP_nn (n : Bool) : EqP n (.pointer none) (.pointer none) K w = K (.bool (!n)) w := by rw [EqP_mk (r := true) rfl]; cases n <;> rfl
theorem EqP_np (n : Bool) (p : Addr) : EqP n (.pointer none) (.pointer (some p)) K w = K (.bool n) w := by rw [EqP_mk (r := false) rfl]; cases n <;> rfl
theorem EqS_mk {m : Nat} {n r : Bool} {xs ys : List Value} (h : intsEq xs ys = some r) (hx : xs.length = m) (hy : ys.length = m) (hk : K (.bool (cond n (!r) r)) w) : EqS m n (.agg xs.toArray) (.agg ys.toArray) K w :=
  ⟨_, _, r, rfl, rfl, by simpa using hx, by simpa using hy, by simpa using h, hk⟩
theorem FnV_c {f : FuncId} {first args caps : Array Value} (he : ∀ args w, (callFunc f args).run P w = .ok (.enter f args) w) (h : Cl P f (first ++ args ++ caps) K w) : FnV P (.func (.func f) first caps) args K w := .inl ⟨he, h⟩
theorem call_of {f : FuncId} {args : Array Value} (he : ∀ args w, (callFunc f args).run P w = .ok (.enter f args) w) (h : Cl P f args K w) : FnV P (.func (.func f) #[] #[]) args K w :=
  .inl ⟨he, by simpa using h⟩
theorem bld_ok {zero : Array Value} {places : List (Nat × Nat)} {parts : Array (Nat × Value)} {cs : Array Value} (h : Instr.fill (fun i => places[i]?) zero parts.toList = some cs) (k : K (.agg cs) w) : Ex P (bldS zero places parts) K w :=
  ⟨_, _, by unfold bldS; rw [h]; rfl, k⟩
theorem ia_ok {es b o len cap : Nat} {k : IntKind} {i : Int} (h0 : 0 ≤ i) (h1 : i < (len : Int)) (hk : K (.pointer (some ⟨b, o + i.toNat * es, none⟩)) w) : IA es (.slice (some ⟨b, o, none⟩) len cap) (.int k i) K w :=
  ⟨_, _, _, _, _, rfl, rfl, h0, h1, by rw [add_of]; exact hk⟩
end

/-! ### Numbers -/
theorem w64 {n : Int} (h0 : -9223372036854775808 ≤ n) (h1 : n ≤ 9223372036854775807) : IntKind.i64.wrap n = n := by
  rw [IntKind.wrap_i64]; omega
def I64 (n : Int) : Prop := -9223372036854775808 ≤ n ∧ n ≤ 9223372036854775807
theorem I64.w {n : Int} (h : I64 n) : IntKind.i64.wrap n = n := w64 h.1 h.2
theorem I64.wrap (n : Int) : I64 (IntKind.i64.wrap n) := by unfold I64; rw [IntKind.wrap_i64]; omega
theorem I64.of_wf {n : Int} (h : (Lit.int .i64 n).wf = true) : I64 n := by
  simp [Lit.wf, IntKind.min, IntKind.max, IntKind.signed, IntKind.bits] at h
  unfold I64
  omega
theorem I64.wf {n : Int} (h : I64 n) : (Lit.int .i64 n).wf = true := by
  unfold I64 at h
  simp [Lit.wf, IntKind.min, IntKind.max, IntKind.signed, IntKind.bits]
  omega
theorem ofInt_nat (a : Int) : (BitVec.ofInt IntKind.i64.bits a).toNat = (a % 18446744073709551616).toNat := by
  show (BitVec.ofInt 64 a).toNat = _
  rw [BitVec.toNat_ofInt]; rfl
theorem iand_mask (a : Int) (k : Nat) (hk : k ≤ 62) (m : Int) (hm : m = 2 ^ k - 1) : iand .i64 a m = a % 2 ^ k := by
  have hp : (2 : Nat) ^ k ≤ 2 ^ 62 := Nat.pow_le_pow_right (by omega) hk
  have hpos : 0 < (2 : Nat) ^ k := Nat.pow_pos (by omega)
  have e62 : (2 : Nat) ^ 62 = 4611686018427387904 := by decide
  have e2 : ((2 : Int) ^ k) = (((2 : Nat) ^ k : Nat) : Int) := by simp
  have hm' : m = (((2 : Nat) ^ k - 1 : Nat) : Int) := by rw [hm, e2]; omega
  have hmn : (m % 18446744073709551616).toNat = 2 ^ k - 1 := by rw [hm']; omega
  have h0 : (a % 18446744073709551616) % ((2 : Int) ^ k) = a % 2 ^ k := by
    refine Int.emod_emod_of_dvd a ?_
    have : (18446744073709551616 : Int) = 2 ^ 64 := by decide
    rw [this]
    exact ⟨2 ^ (64 - k), by rw [← Int.pow_add]; congr 1; omega⟩
  unfold iand
  rw [BitVec.toNat_and, ofInt_nat, ofInt_nat, hmn, Nat.and_two_pow_sub_one_eq_mod]
  have hlt : (a % 18446744073709551616).toNat % 2 ^ k < 2 ^ k := Nat.mod_lt _ hpos
  rw [w64 (by omega) (by omega), ← h0]
  have hnn : 0 ≤ a % 18446744073709551616 := Int.emod_nonneg _ (by decide)
  rw [Int.natCast_emod, Int.toNat_of_nonneg hnn]
  simp
theorem ior_add (a b : Int) (k : Nat) (ha : 0 ≤ a) (hb : 0 ≤ b) (hd : a % 2 ^ k = 0) (hlt : b < 2 ^ k) (hs : a + b ≤ 9223372036854775807) : ior .i64 a b = a + b := by
  obtain ⟨x, rfl⟩ := Int.eq_ofNat_of_zero_le ha
  obtain ⟨y, rfl⟩ := Int.eq_ofNat_of_zero_le hb
  have e2 : ((2 : Int) ^ k) = (((2 : Nat) ^ k : Nat) : Int) := by simp
  rw [e2] at hd hlt
  have hd' : x % 2 ^ k = 0 := by omega
  have hlt' : y < 2 ^ k := by omega
  unfold ior
  have hx : ((x : Int) % 18446744073709551616).toNat = x := by omega
  have hy : ((y : Int) % 18446744073709551616).toNat = y := by omega
  rw [BitVec.toNat_or, ofInt_nat, ofInt_nat, hx, hy]
  obtain ⟨q, rfl⟩ : ∃ q, x = 2 ^ k * q := ⟨x / 2 ^ k, by have := Nat.div_add_mod x (2 ^ k); omega⟩
  rw [← Nat.two_pow_add_eq_or_of_lt hlt']
  rw [w64 (by omega) (by omega)]
  omega
end Go.Jac

namespace Go.Jac
open Go

theorem Sat.tail {A : HP} {L : List HP} : ∀ {h : Hp}, Sat (A :: L) h → Sat L h := by
  induction L generalizing A with
  | nil => intro h _; trivial
  | cons B M ih =>
    intro h s
    obtain ⟨h1, h2, s1, a, h3, h4, s2, b, m⟩ := s
    obtain ⟨h', t1, t2⟩ := s1.assoc s2
    exact ⟨h3, h', t1, b, ih (A := A) ⟨h1, h4, t2, a, m⟩⟩
theorem Sat.tail2 {A B : HP} {L : List HP} {h : Hp} (s : Sat (A :: B :: L) h) : Sat (A :: L) h := s.swap.tail
theorem Sat.opens {M : List HP} : ∀ {L : List HP} {h : Hp}, Sat (sat M :: L) h → Sat (M ++ L) h := by
  induction M with
  | nil => intro L h s; exact s.tail
  | cons A M ih =>
    intro L h s
    obtain ⟨h1, h2, s1, ⟨h3, h4, s2, a, m⟩, l⟩ := s
    obtain ⟨h', t1, t2⟩ := s1.into s2
    exact ⟨h3, h', t1, a, ih ⟨h4, h2, t2, m, l⟩⟩

/-- What holds of the world of a walk that began at w0. -/
def D (w0 : World) (L : List HP) (w : World) : Prop := Sat L (hw w) ∧ Kp w0 w
section
variable {w0 w : World} {L M : List HP} {A B : HP} {K : Value → WP} {b o n m : Nat} {t : TypeId} {cs : List Value} {v : Value}
theorem D.pick (i : Nat) (d : D w0 L w) : D w0 (pk i L) w := ⟨d.1.pick i, d.2⟩
theorem D.back (i : Nat) (d : D w0 L w) : D w0 (pb i L) w := ⟨d.1.back i, d.2⟩
theorem D.swap (d : D w0 (A :: B :: L) w) : D w0 (B :: A :: L) w := ⟨d.1.swap, d.2⟩
theorem D.swap2 {C : HP} (d : D w0 (A :: B :: C :: L) w) : D w0 (A :: C :: B :: L) w := ⟨d.1.under fun _ s => s.swap, d.2⟩
theorem D.tail (d : D w0 (A :: L) w) : D w0 L w := ⟨d.1.tail, d.2⟩
theorem D.tail2 (d : D w0 (A :: B :: L) w) : D w0 (A :: L) w := d.swap.tail
theorem D.hd (d : D w0 (A :: L) w) (f : ∀ h, A h → B h) : D w0 (B :: L) w := ⟨d.1.hd f, d.2⟩
theorem D.get (d : D w0 (cel b t cs :: L) w) : hw w b = some (.cells cs.toArray t (0, 0)) := d.1.get
theorem D.ex {α : Type} {A : α → HP} (d : D w0 (ex A :: L) w) : ∃ x, D w0 (A x :: L) w := by
  obtain ⟨x, s⟩ := Sat.ex_iff.1 d.1
  exact ⟨x, s, d.2⟩
theorem D.mk_ex {α : Type} {A : α → HP} (x : α) (d : D w0 (A x :: L) w) : D w0 (Jac.ex A :: L) w := ⟨Sat.ex_iff.2 ⟨x, d.1⟩, d.2⟩
theorem D.opens (d : D w0 (sat M :: L) w) : D w0 (M ++ L) w := ⟨d.1.opens, d.2⟩
theorem D.close (d : D w0 (M ++ L) w) : D w0 (sat M :: L) w := ⟨d.1.close, d.2⟩
theorem D.drawn (d : D w0 L w) : D w0 L { w with drawn := w.drawn + 1 } := ⟨d.1, d.2.os, d.2.tape, d.2.output, d.2.size, Nat.le_trans d.2.drawn (Nat.le_succ _)⟩

theorem ones {l : List Value} (h : l.all Value.oneCell' = true) : ∀ x ∈ l, x.oneCell' = true := List.all_eq_true.1 h
theorem d_st (d : D w0 (cel b t cs :: L) w) (hn : v.cells.size = n) (hl : o + n ≤ cs.length) (h1 : ∀ x ∈ v.cells.toList, x.oneCell' = true)
    (k : ∀ w', D w0 (cel b t (splice cs o v.cells.toList) :: L) w' → K undef w') : St n (.pointer (some ⟨b, o, none⟩)) v K w :=
  st_ok d.1 hn hl h1 fun w' s kp => k w' ⟨s, d.2.trans kp⟩
theorem d_new (cs : List Value) (d : D w0 L w) (k : ∀ b w', D w0 (cel b t cs :: L) w' → K (.pointer (some ⟨b, 0, none⟩)) w') : New t cs.toArray K w :=
  new_ok d.1 fun b w' s kp => k b w' ⟨s, d.2.trans kp⟩
theorem d_new' {vs : Array Value} (cs : List Value) (hv : vs = cs.toArray) (d : D w0 L w) (k : ∀ b w', D w0 (cel b t cs :: L) w' → K (.pointer (some ⟨b, 0, none⟩)) w') : New t vs K w := hv ▸ d_new cs d k
theorem d_bsl {elem size len : Nat} {zero : Array Value} {parts : Array (Nat × Value)} (cs : List Value) (d : D w0 L w) (hs : len * size ≤ 2 ^ 24)
    (hf : Instr.fill (fun i => some (i * size, size)) ((Array.range (len * size)).map (zero[· % zero.size]!)) parts.toList = some cs.toArray)
    (k : ∀ b w', D w0 (cel b elem cs :: L) w' → K (.slice (some ⟨b, 0, none⟩) len len) w') : BSlC elem size zero len parts K w :=
  bsl_ok d.1 hs hf fun b w' s kp => k b w' ⟨s, d.2.trans kp⟩
theorem d_app {elem es bytes : Nat} {zero : Array Value} {sv x : Value} {news : List Value} (d : D w0 (Rw elem es sv n cs :: L) w) (hx : SrcV es x m news w) (hz : zero.size = es) (hm : 0 < m) (hb : (n + m) * bytes ≤ 140737488355328) (h63 : n + m < 4611686018427387904)
    (hx2 : ∀ v ∈ news, v.oneCell' = true)
    (k : ∀ sv' w', D w0 (Rw elem es sv' (n + m) (cs ++ news) :: L) w' → K sv' w') : AppC elem es bytes zero sv x K w :=
  app_ok d.1 hx hz hm hb h63 hx2 fun sv' w' s kp => k sv' w' ⟨s, d.2.trans kp⟩
/-- The appended slice of one element, fresh in a block. -/
theorem src_of (g : hw w b = some (.cells cs.toArray t (0, 0))) (hl : cs.length = m * n) (h1 : ∀ u ∈ cs, u.oneCell' = true) (c : Nat) : SrcV n (.slice (some ⟨b, 0, none⟩) m c) m cs w :=
  .slice ⟨b, 0, none⟩ c rfl hl (fun j u hu => by rw [add_of, cell_of g, Nat.zero_add]; exact hu) h1
end

/-! ### Rows of records -/
section
variable {α : Type} {f : α → List Value} {es : Nat} {S : List α}
theorem flat_len (hf : ∀ x, (f x).length = es) : (S.flatMap f).length = S.length * es := by
  induction S with
  | nil => simp
  | cons x r ih => rw [List.flatMap_cons, List.length_append, ih, hf, List.length_cons, Nat.add_mul]; omega
theorem flat_at (hf : ∀ x, (f x).length = es) : ∀ {S : List α} {i : Nat} (h : i < S.length), ∃ pre post, S.flatMap f = pre ++ f S[i] ++ post ∧ pre.length = i * es ∧ ∀ y, (S.set i y).flatMap f = pre ++ f y ++ post
  | x :: r, 0, _ => ⟨[], r.flatMap f, by simp, by simp, fun y => by simp⟩
  | x :: r, i + 1, h => by
    obtain ⟨pre, post, h1, h2, h3⟩ := flat_at hf (S := r) (i := i) (by simpa using h)
    refine ⟨f x ++ pre, post, ?_, ?_, fun y => ?_⟩
    · rw [List.flatMap_cons, h1]; simp
    · rw [List.length_append, hf, h2, Nat.add_mul]; omega
    · rw [List.set_cons_succ, List.flatMap_cons, h3]; simp
theorem splice_mid {pre mid post vs : List Value} {o p : Nat} (hp : p = pre.length + o) (h : o + vs.length ≤ mid.length) : splice (pre ++ mid ++ post) p vs = pre ++ splice mid o vs ++ post := by
  subst hp
  rw [splice_eq _ _ _ (by simp; omega), splice_eq _ _ _ h]
  have h1 : (pre ++ mid ++ post).take (pre.length + o) = pre ++ mid.take o := by
    rw [List.append_assoc, List.take_append, List.take_append_of_le_length (by omega)]
    simp [List.take_of_length_le]
  have h2 : (pre ++ mid ++ post).drop (pre.length + o + vs.length) = mid.drop (o + vs.length) ++ post := by
    rw [List.append_assoc, List.drop_append, List.drop_append_of_le_length (by omega)]
    rw [List.drop_eq_nil_of_le (by omega)]
    simp only [List.nil_append]
    congr 2; omega
  rw [h1, h2]; simp

variable {w0 w : World} {L : List HP} {K : Value → WP} {elem : Nat} {sv : Value} {i : Int}
/-- Where an element of a row lies. -/
theorem rec_at (hf : ∀ x, (f x).length = es) (d : D w0 (Rw elem es sv S.length (S.flatMap f) :: L) w) (h0 : 0 ≤ i) (h1 : i < S.length) :
    ∃ (b cap : Nat) (cs : List Value), sv = .slice (some ⟨b, 0, none⟩) S.length cap ∧ hw w b = some (.cells cs.toArray elem (0, 0)) ∧ ∀ j x, (f (S[i.toNat]'(by omega)))[j]? = some x → cs[i.toNat * es + j]? = some x := by
  obtain ⟨b, cap, junk, rfl, hle, hl, s⟩ := Rw.block d.1 (by omega)
  refine ⟨b, cap, _, rfl, s.get, fun j x hx => ?_⟩
  obtain ⟨pre, post, e1, e2, _⟩ := flat_at hf (S := S) (i := i.toNat) (by omega)
  have hj := (List.getElem?_eq_some_iff.1 hx).1
  rw [e1, ← e2, List.append_assoc, List.append_assoc, List.getElem?_append_right (by omega), Nat.add_sub_cancel_left, List.getElem?_append_left hj]
  exact hx
/-- An element of a row, or a part of it, written anew. -/
theorem rec_st (hf : ∀ x, (f x).length = es) {b cap n : Nat} (d : D w0 (Rw elem es (.slice (some ⟨b, 0, none⟩) n cap) S.length (S.flatMap f) :: L) w) (h0 : 0 ≤ i) (h1 : i < S.length) {v : Value} {m o p : Nat} (hp : p = i.toNat * es + o) (hm : v.cells.size = m) (ho : o + m ≤ es)
    (hc : ∀ x ∈ v.cells.toList, x.oneCell' = true) (y : α) (hy : splice (f (S[i.toNat]'(by omega))) o v.cells.toList = f y)
    (k : ∀ w', D w0 (Rw elem es (.slice (some ⟨b, 0, none⟩) n cap) (S.set i.toNat y).length ((S.set i.toNat y).flatMap f) :: L) w' → K undef w') :
    St m (.pointer (some ⟨b, p, none⟩)) v K w := by
  obtain ⟨b', cap', junk, e, hle, hl, s⟩ := Rw.block d.1 (by omega)
  cases e
  obtain ⟨pre, post, e1, e2, e3⟩ := flat_at hf (S := S) (i := i.toNat) (by omega)
  have hs : v.cells.toList.length = m := by rw [Array.length_toList]; exact hm
  have hi : i.toNat < S.length := by omega
  have hroom : i.toNat * es + es ≤ S.length * es := by rw [← Nat.succ_mul]; exact Nat.mul_le_mul_right _ hi
  have hfl := flat_len (S := S) hf
  refine d_st (w0 := w0) (L := L) (cs := S.flatMap f ++ junk) ⟨s, d.2⟩ hm (by subst hp; rw [List.length_append, hfl]; omega) hc fun w' d' => k w' ?_
  have key : splice (S.flatMap f ++ junk) p v.cells.toList = (S.set i.toNat y).flatMap f ++ junk := by
    rw [e1, List.append_assoc, splice_mid (o := o) (by omega) (by rw [hf, hs]; exact ho), hy, e3]
    simp
  rw [key] at d'
  have hlen : (S.set i.toNat y).length = S.length := by simp
  refine ⟨?_, d'.2⟩
  rw [hlen]
  exact Rw.mk d'.1 hle (by rw [flat_len hf, hlen]) (by rw [← key, splice_length]; exact hl)
end
end Go.Jac

namespace Go.Jac
open Go
section
variable {P : Program} {w0 w : World} {L : List HP} {I : WP} {B : Value → WP} {b o n : Nat} {t : TypeId} {cs : List Value} {v : Value}
/-- A segment: what holds of memory while some of those that read are still ahead. -/
theorem qt {F : WP → WP} (d : D w0 L w) (h : F (D w0 L) w) : QtC F w := ⟨_, d, h⟩
theorem ch {K : WP} (h : I w) (k : K w) : CH I K w := ⟨h, k⟩
theorem drw {A : WP} (d : D w0 L w) (h : ∀ w', D w0 L w' → A w') : Drw A w := h _ d.drawn
theorem qe {A : (Value → WP) → WP} (v : Value) (h : ∀ w', I w' → A (fun v' w'' => v' = v ∧ w'' = w') w') (k : B v w) : QE I A B w := ⟨v, h, k⟩
theorem qe_nil {p : Addr} (k : B (.pointer (some p)) w) : QE I (fun KK => NilC (.pointer (some p)) fun v => KK v) B w := qe _ (fun _ _ => ⟨rfl, rfl⟩) k
theorem qe_fa (k : B (.pointer (some ⟨b, o + n, none⟩)) w) : QE I (fun KK => FA (.pointer (some ⟨b, o, none⟩)) n fun v => KK v) B w := qe _ (fun _ _ => by rw [FA_p]; exact ⟨rfl, rfl⟩) k
theorem qe_ld1 (g : ∀ w', I w' → hw w' b = some (.cells cs.toArray t (0, 0))) (hv : cs[o]? = some v) (k : B v w) : QE I (fun KK => Ld1 (.pointer (some ⟨b, o, none⟩)) fun v => KK v) B w := qe _ (fun w' h => ld1 (g w' h) hv ⟨rfl, rfl⟩) k
theorem qe_ldN (g : ∀ w', I w' → hw w' b = some (.cells cs.toArray t (0, 0))) (vs : List Value) (hl : vs.length = n) (hv : ∀ j x, vs[j]? = some x → cs[o + j]? = some x) (k : B (.agg vs.toArray) w) : QE I (fun KK => LdN n (.pointer (some ⟨b, o, none⟩)) fun v => KK v) B w := qe _ (fun w' h => ldN (g w' h) vs hl hv ⟨rfl, rfl⟩) k
theorem qe_bld {zero : Array Value} {places : List (Nat × Nat)} {parts : Array (Nat × Value)} (c : Array Value) (h : Instr.fill (fun i => places[i]?) zero parts.toList = some c) (k : B (.agg c) w) : QE I (fun KK => Ex P (bldS zero places parts) fun v => KK v) B w := qe _ (fun _ _ => bld_ok h ⟨rfl, rfl⟩) k
theorem qe_ext {vs : Array Value} {i : Nat} (h : vs[i]? = some v) (k : B v w) : QE I (fun KK => Ext (.tuple vs) i fun v => KK v) B w := qe v (fun _ _ => by rw [Ext_t, h]; exact ⟨rfl, rfl⟩) k
theorem qe_ia {es len cap : Nat} {k : IntKind} {i : Int} (h0 : 0 ≤ i) (h1 : i < (len : Int)) (kk : B (.pointer (some ⟨b, o + i.toNat * es, none⟩)) w) : QE I (fun KK => IA es (.slice (some ⟨b, o, none⟩) len cap) (.int k i) fun v => KK v) B w := qe _ (fun _ _ => ia_ok h0 h1 ⟨rfl, rfl⟩) kk
theorem qe_len {p : Option Addr} {n c : Nat} (k : B (.int .i64 n) w) : QE I (fun KK => LenS (.slice p n c) fun v => KK v) B w := qe _ (fun _ _ => ⟨rfl, rfl⟩) k
/-- Whatever needs no memory. -/
theorem qe_op {A : (Value → WP) → WP} (h : ∀ KK w, A KK w = KK v w) (k : B v w) : QE I A B w := qe v (fun _ _ => by rw [h]; exact ⟨rfl, rfl⟩) k
end
theorem St_w {n : Nat} {v : Value} {K K' : Value → WP} {p : Value} {w : World} (h : St n p v K w) (k : ∀ w', K undef w' → K' undef w') : St n p v K' w := by
  obtain ⟨p, a, b, c, d⟩ := h
  exact ⟨p, a, b, c, k _ d⟩
end Go.Jac

namespace Go.Jac
open Go Go.RowKit Go.ChangeShapes

/-- All that was there. -/
def Old (w : World) : HP := fun h => ∀ b, b < w.heap.size → h b = hw w b
theorem D.start (w : World) : D w [Old w] w := ⟨⟨hw w, hE, (Split.right _).comm, fun _ _ => rfl, trivial⟩, Kp.refl w⟩
theorem D.below {w0 w : World} {L : List HP} (d : D w0 (Old w0 :: L) w) : Below w0.heap.size w0 w := by
  obtain ⟨⟨h1, h2, s, a, _⟩, k⟩ := d
  refine ⟨k.os, k.tape, k.output, k.size, fun i hi => ?_⟩
  have e : hw w0 i = some w0.heap[i] := Array.getElem?_eq_getElem hi
  have g : h1 i = some w0.heap[i] := (a i hi).trans e
  exact (s.l g).trans e.symm
/-- A cell that was there reads as it did. -/
theorem D.old {w0 w : World} {L : List HP} (d : D w0 (Old w0 :: L) w) {p : Addr} (hp : p.block < w0.heap.size) : w.cell? p = w0.cell? p := (D.below d).cell hp

section
variable {H : Type} {enc : TypeId × Value → H} {P : Program}
theorem trodAll_below (hl : laidOutB P = true) {W W' : World} (hb : Below W.heap.size W W') : ∀ {ts : List TypeId} {vs : List Value} {ds : List (DataW H)} {ps : List MemPlace},
    (∀ t ∈ ts, P.readableRec t = true ∧ t < P.types.size) → DataW.TrodAll enc P W 0 (fun _ => true) true ts vs ds ps → (∀ x ∈ ps, x.block < W.heap.size) →
    DataW.TrodAll enc P W' 0 (fun b => decide (b < W.heap.size)) true ts vs ds ps
  | [], [], [], ps, _, h, _ => h
  | t :: ts, v :: vs, d :: ds, ps, ht, h, hlt => by
    obtain ⟨p, q, h1, h2, rfl⟩ := h
    exact trodAll_cons_mk (hb.trod hl (ht t (by simp)).1 (ht t (by simp)).2 h1 fun x hx => hlt x (by simp [hx]))
      (trodAll_below hl hb (fun t' ht' => ht t' (by simp [ht'])) h2 fun x hx => hlt x (by simp [hx]))
theorem law_post {f : Func} {s : ChangeSpec} {apart fresh handsOn : Bool} {W W' : World} {args : Array Value} {ds gs : List (DataW H)} {before : List MemPlace} {tb : TypeId}
    (hl : laidOutB P = true) (ht : ∀ t ∈ f.params.toList, P.readableRec t = true ∧ t < P.types.size) (hv : s.vars = []) (hr : f.resultTypes = #[tb]) (hb : P.underlying tb = some .bool)
    (hW : DataW.Whole enc P f.params.toList s.vars apart W args.toList ds gs before)
    (hf : s.fn H (ds ++ gs) = { results := [.lit (.bool true)], args := ds, vars := [] }) (B : Below W.heap.size W W') : s.post enc P f apart fresh handsOn false W args (.bool true) W' := by
  have hlt := hW.lt
  have hW' := hW
  obtain ⟨p, q, hA, hV, rfl, _, _⟩ := hW
  rw [hv] at hV
  obtain ⟨rfl, rfl⟩ := trodVars_none hV
  refine ⟨ds, [], _, [], p, [], hW', ?_, ?_, ?_, World.keptBut_mono (fun _ h => h.elim) (B.frame (fun _ => False)), fun h => by cases h⟩
  · rw [hf, hr]
    exact trodAll_cons_mk (shut_bool hb true) trodAll_mk0
  · rw [hf]
    exact trodAll_below hl B ht hA fun x hx => hlt x (by simpa using hx)
  · rw [hf, hv]
    exact (rfl : ([] : List MemPlace) = [])
end
/-- A law's walk, as its row asks for it. -/
theorem law_walk {P : Program} {n : FuncId} {args : Array Value} {W : World} (h : ∀ (K : Value → WP), (∀ w', D W [Old W] w' → K (.bool true) w') → Cl P n args K W) :
    Calls P n args W fun e w' => e = .returned (.bool true) ∧ Below W.heap.size W w' := by
  refine Calls.mono (h (fun v w' => v = .bool true ∧ Below W.heap.size W w') fun w' d => ⟨rfl, d.below⟩) ?_
  rintro e w' ⟨v, rfl, rfl, hb⟩
  exact ⟨rfl, hb⟩
end Go.Jac

namespace Go.Jac
open Go Go.RowKit

/-- Cells that read as data of a type. -/
def Rd (P : Program) (w : World) (t : TypeId) (cs : List Value) : Prop :=
  ∃ (H : Type) (enc : TypeId × Value → H) (base : Nat) (sp : Nat → Bool) (held : Bool) (fuel : Nat) (x : DataW H × List MemPlace), DataW.trod enc P w base sp held fuel t cs = some x
section
variable {P : Program} {w : World} {t : TypeId} {cs : List Value}
theorem Rd.of {H : Type} {enc : TypeId × Value → H} {base : Nat} {sp : Nat → Bool} {held : Bool} {v : Value} {d : DataW H} {ps : List MemPlace} (h : DataW.Trod enc P w base sp held t v d ps) : Rd P w t v.cells.toList := by
  obtain ⟨fuel, h⟩ := h
  exact ⟨_, _, _, _, _, _, _, h⟩
theorem Rd.int {k : IntKind} (ht : P.underlying t = some (.int k)) (h : Rd P w t cs) : ∃ n, cs = [.int k n] ∧ (Lit.int k n).wf = true := by
  obtain ⟨_, _, _, _, _, _, _, h⟩ := h
  obtain ⟨n, e, _, hw⟩ := DataW.trod_int ht h
  exact ⟨n, e, hw⟩
theorem Rd.bool (ht : P.underlying t = some .bool) (h : Rd P w t cs) : ∃ b, cs = [.bool b] := by
  obtain ⟨_, _, _, _, _, _, _, h⟩ := h
  obtain ⟨n, e, _⟩ := DataW.trod_bool ht h
  exact ⟨n, e⟩
theorem Rd.string (ht : P.underlying t = some .string) (h : Rd P w t cs) : ∃ s : ByteArray, cs = [.string s] ∧ s.size ≤ maxLen := by
  obtain ⟨_, _, _, _, _, _, _, h⟩ := h
  obtain ⟨n, e, _, hw⟩ := DataW.trod_string ht h
  exact ⟨n, e, hw⟩
theorem Rd.struct {fs : Array Field} (ht : P.underlying t = some (.struct fs)) (h : Rd P w t cs) : cs.length = P.cellsOf t ∧ ∀ (i : Nat) (f : Field), fs[i]? = some f → Rd P w f.type ((cs.drop f.offset).take (P.cellsOf f.type)) := by
  obtain ⟨H, enc, base, sp, held, fuel, x, h⟩ := h
  obtain ⟨xs, m, rfl, _, hl, hn, hx⟩ := DataW.trod_struct ht h
  refine ⟨hl, fun i f hf => ?_⟩
  have hi : i < xs.length := by
    rw [hn]; exact (Array.getElem?_eq_some_iff.1 hf).1
  exact ⟨H, enc, base, sp, held, m, xs[i], (hx i f hf).trans (List.getElem?_eq_getElem hi)⟩
theorem cells?_get {base : Nat} {a : Addr} {n : Nat} {vs : List Value} (h : w.cells? base a n = some vs) : vs.length = n ∧ ∀ j x, vs[j]? = some x → w.cell? (a.add j) = some x := by
  unfold World.cells? at h
  split at h
  · have hl := mapM_some_length h
    rw [List.length_range] at hl
    refine ⟨hl, fun j x hx => ?_⟩
    have hj : j < n := by rw [← hl]; exact (List.getElem?_eq_some_iff.1 hx).1
    rw [mapM_some_get h j j (by simp [hj]), hx]
  · cases h
theorem Rd.slice {e : TypeId} (ht : P.underlying t = some (.slice e)) (h : Rd P w t cs) :
    cs = [.slice none 0 0] ∨ ∃ a len cap, cs = [.slice (some a) len cap] ∧ len ≤ cap ∧ cap ≤ maxLen ∧
      ∀ i, i < len → ∃ vs : List Value, vs.length = P.cellsOf e ∧ (∀ j x, vs[j]? = some x → w.cell? ((a.add (i * P.cellsOf e)).add j) = some x) ∧ Rd P w e vs := by
  obtain ⟨H, enc, base, sp, held, fuel, x, h⟩ := h
  rcases DataW.trod_slice ht h with ⟨e, _⟩ | ⟨a, len, cap, elems, rest, m, rfl, e, _, _, hl, hc, hn, hx, _⟩
  · exact .inl e
  · refine .inr ⟨a, len, cap, e, hl, hc, fun i hi => ?_⟩
    have := hx i hi
    rw [List.getElem?_eq_getElem (by rw [hn]; exact hi), Option.bind_eq_some_iff] at this
    obtain ⟨vs, h1, h2⟩ := this
    obtain ⟨h3, h4⟩ := cells?_get h1
    exact ⟨vs, h3, h4, H, enc, base, sp, held, m, _, h2⟩
theorem Rd.array {n : Nat} {e : TypeId} (ht : P.underlying t = some (.array n e)) (h : Rd P w t cs) : cs.length = P.cellsOf t ∧ ∀ i, i < n → Rd P w e ((cs.drop (i * P.cellsOf e)).take (P.cellsOf e)) := by
  obtain ⟨H, enc, base, sp, held, fuel, x, h⟩ := h
  obtain ⟨xs, m, rfl, _, hl, hn, hx⟩ := DataW.trod_array ht h
  refine ⟨hl, fun i hi => ⟨H, enc, base, sp, held, m, xs[i]'(by rw [hn]; exact hi), ?_⟩⟩
  rw [hx i hi]
  exact List.getElem?_eq_getElem _
end

/-! ### Old memory, wherever it stands in the list -/
theorem D.front {w0 w : World} {A : HP} : ∀ {L : List HP}, D w0 L w → A ∈ L → ∃ M, D w0 (A :: M) w
  | B :: L, d, h => by
    rcases List.mem_cons.1 h with rfl | h
    · exact ⟨L, d⟩
    · obtain ⟨i, hi, e⟩ := List.getElem_of_mem h
      obtain ⟨⟨h1, h2, s, b, l⟩, k⟩ := d
      have key : ∀ {L : List HP} {h : Hp} {A : HP}, Sat L h → A ∈ L → ∃ M, Sat (A :: M) h := by
        intro L
        induction L with
        | nil => intro h A _ hm; cases hm
        | cons C L ih =>
          intro h A s hm
          rcases List.mem_cons.1 hm with rfl | hm
          · exact ⟨L, s⟩
          · obtain ⟨h3, h4, s2, c, l2⟩ := s
            obtain ⟨M, l3⟩ := ih l2 hm
            exact ⟨C :: M, Sat.swap ⟨h3, h4, s2, c, l3⟩⟩
      obtain ⟨M, s'⟩ := key (L := B :: L) (h := hw w) ⟨h1, h2, s, b, l⟩ (List.mem_cons_of_mem _ h)
      exact ⟨M, s', k⟩
theorem D.oldc {w0 w : World} {L : List HP} (d : D w0 L w) (hm : Old w0 ∈ L) {p : Addr} {x : Value} (hx : w0.cell? p = some x) : w.cell? p = some x := by
  obtain ⟨M, d⟩ := d.front hm
  rw [← hx]
  refine d.old ?_
  unfold World.cell? at hx
  cases hb : w0.heap[p.block]? with
  | none => simp [hb] at hx
  | some o => exact (Array.getElem?_eq_some_iff.1 hb).1
section
variable {w0 w : World} {L : List HP} {K : Value → WP} {p : Addr}
theorem old_ld1 {v : Value} (d : D w0 L w) (hm : Old w0 ∈ L) (hv : w0.cell? p = some v) (k : K v w) : Ld1 (.pointer (some p)) K w := ⟨_, v, rfl, d.oldc hm hv, k⟩
theorem old_ldN {n : Nat} (vs : List Value) (d : D w0 L w) (hm : Old w0 ∈ L) (hl : vs.length = n) (hv : ∀ j x, vs[j]? = some x → w0.cell? (p.add j) = some x) (k : K (.agg vs.toArray) w) : LdN n (.pointer (some p)) K w :=
  ⟨_, vs, rfl, hl, fun j x hx => d.oldc hm (hv j x hx), k⟩
theorem old_ia {es len c : Nat} {k : IntKind} {i : Int} (h0 : 0 ≤ i) (h1 : i < (len : Int)) (hk : K (.pointer (some (p.add (i.toNat * es)))) w) : IA es (.slice (some p) len c) (.int k i) K w :=
  ⟨_, _, _, _, _, rfl, rfl, h0, h1, hk⟩
end
end Go.Jac

namespace Go.Jac
open Go
theorem hw_put {w : World} {l : Nat} {o : Obj} (h : l < w.heap.size) : hw (World.put' w l o) = (hw w).set l o := by
  funext i
  simp only [hw, Hp.set, World.put', Array.getElem?_setIfInBounds]
  by_cases e : l = i
  · subst e; simp [h]
  · rw [if_neg e, if_neg fun h => e h.symm]
theorem Kp.put {w : World} {l : Nat} {o : Obj} : Kp w (World.put' w l o) := ⟨rfl, rfl, rfl, by simp [World.put'], Nat.le_refl _⟩
/-- The parts with these numbers are laid first, in this order. -/
def sel : List Nat → List Nat → List HP → List HP
  | [], _, L => L
  | i :: is, seen, L => match pk (i - (seen.filter fun j => Nat.blt j i).length) L with
    | [] => []
    | A :: M => A :: sel is (i :: seen) M
theorem Sat.sel : ∀ (ix seen : List Nat) {L : List HP} {h : Hp}, Sat L h → Sat (sel ix seen L) h
  | [], _, _, _, s => s
  | i :: is, seen, L, h, s => by
    have s' := s.pick (i - (seen.filter fun j => Nat.blt j i).length)
    unfold Jac.sel
    split
    · trivial
    · rename_i A M e
      rw [e] at s'
      exact s'.under fun h t => Sat.sel is (i :: seen) t
theorem D.sel (ix : List Nat) {w0 w : World} {L : List HP} (d : D w0 L w) : D w0 (Jac.sel ix [] L) w := ⟨d.1.sel ix [], d.2⟩
section
variable {P : Program} {w0 w : World} {L : List HP} {A : WP} {K : Value → WP} {l m : Nat} {o o' : Obj} {r : Loop}
theorem D.at_ (d : D w0 (pts l o :: L) w) : w.heap[l]? = some o := d.1.get
theorem D.put (d : D w0 (pts l o :: L) w) : D w0 (pts l o' :: L) (World.put' w l o') := by
  have h := d.at_
  refine ⟨?_, d.2.trans Kp.put⟩
  rw [hw_put (Array.getElem?_eq_some_iff.1 h).1]
  exact d.1.set
theorem d_beg (d : D w0 (pts l (.loop r) :: L) w) (hr : r.state = .ready) (k : ∀ w', D w0 (pts l (.loop { r with state := .busy }) :: L) w' → A w') : RBeg l A w :=
  ⟨r, d.at_, hr, k _ d.put⟩
theorem d_end0 (d : D w0 (pts l (.loop r) :: L) w) (k : ∀ w', D w0 (pts l (.loop { r with state := .ready, pending := none }) :: L) w' → K (.bool true) w') : REnd l none K w :=
  ⟨r, d.at_, k _ d.put⟩
theorem d_endj {j : Code} (d : D w0 (pts l (.loop r) :: L) w) (k : ∀ w', D w0 (pts l (.loop { r with state := .done, pending := some j }) :: L) w' → K (.bool false) w') : REnd l (some j) K w :=
  ⟨r, d.at_, k _ d.put⟩
theorem d_lv1 (d : D w0 (pts m (.deferred (some [])) :: L) w) (k : ∀ w', D w0 L w' → A w') : LvC (.tuple #[.pointer (some ⟨m, 0, none⟩)]) A w :=
  ⟨d.at_, k _ (d.put (o' := .deferred none)).tail⟩
theorem d_rf0 {k : Nat} {caps : Array Value} {rd : Nat → List Value → (Value → WP) → WP} {K : Value → Option Code → WP} (he : ∀ args w, (callFunc k args).run P w = .ok (.enter k args) w) (d : D w0 L w)
    (h : ∀ m l r0 w1, r0.state = .ready → r0.pending = none → RoundOf P r0 rd → D w0 (pts l (.loop r0) :: pts m (.deferred (some [])) :: L) w1 →
      Cl P k (#[.func (.yield l) #[] #[]] ++ caps) (fun _ w3 => ∃ r L', D w0 (pts l (.loop r) :: L') w3 ∧ sameLp r r0 ∧ r.state ≠ .busy ∧ ∀ w4, D w0 L' w4 → K (.pointer (some ⟨m, 0, none⟩)) r.pending w4) w1) :
    RF0 P (.func (.func k) #[] caps) rd K w := by
  refine ⟨k, caps, rfl, he, fun r0 h1 h2 _ h4 => ?_⟩
  have e : (w.heap.push (.deferred (some []))).push (.loop r0) = ((w.alloc (.deferred (some []))).alloc (.loop r0)).heap := rfl
  have d1 : D w0 (pts w.heap.size (.deferred (some [])) :: L) (w.alloc (.deferred (some []))) := ⟨by rw [hw_alloc]; exact Sat.new (hw_none w) d.1, d.2.trans (Kp.alloc _ _)⟩
  have hs : (w.alloc (.deferred (some []))).heap.size = w.heap.size + 1 := by show (w.heap.push _).size = _; exact Array.size_push _
  have d2 : D w0 (pts (w.heap.size + 1) (.loop r0) :: pts w.heap.size (.deferred (some [])) :: L) ((w.alloc (.deferred (some []))).alloc (.loop r0)) :=
    ⟨by rw [hw_alloc, ← hs]; exact Sat.new (hw_none _) d1.1, d1.2.trans (Kp.alloc _ _)⟩
  refine (h w.heap.size (w.heap.size + 1) r0 _ h1 h2 h4 d2).mono ?_
  rintro _ w3 ⟨r, L', d3, hs, hb, hk⟩
  exact ⟨r, d3.at_, hs, hb, hk _ (d3.put (o' := .loop { r with state := .exhausted })).tail⟩
theorem y_ok {r0 : Loop} {rd : Nat → List Value → (Value → WP) → WP} {args : List Value} (hr : RoundOf P r0 rd) (d : D w0 (pts l (.loop r0) :: L) w) (h : rd l args K w) : FnV P (.func (.yield l) #[] #[]) args.toArray K w :=
  hr l r0 args K w d.at_ rfl rfl rfl rfl rfl h _ rfl
theorem sameLp.refl (r : Loop) : sameLp r r := ⟨rfl, rfl, rfl, rfl, rfl, rfl⟩
theorem loop_eta {r : Loop} (h1 : r.state = .ready) (h2 : r.pending = none) : { { r with state := .busy } with state := .ready, pending := none } = r := by
  cases r; simp_all
end
end Go.Jac

namespace Go.Jac
open Go
/-- A row that was there when the walk began: n elements of type e, of es cells each. -/
def OldSl (P : Program) (w0 : World) (e es : Nat) (v : Value) (n : Nat) : Prop :=
  n ≤ maxLen ∧ ((v = .slice none 0 0 ∧ n = 0) ∨ ∃ a c, v = .slice (some a) n c ∧ ∀ i, i < n → ∃ vs : List Value, vs.length = es ∧ (∀ j x, vs[j]? = some x → w0.cell? ((a.add (i * es)).add j) = some x) ∧ Rd P w0 e vs)
theorem osl_of {P : Program} {w0 : World} {t e es : Nat} {v : Value} (ht : P.underlying t = some (.slice e)) (he : P.cellsOf e = es) (h : Rd P w0 t [v]) : ∃ n, OldSl P w0 e es v n := by
  rcases h.slice ht with h | ⟨a, len, cap, h, hl, hc, hx⟩
  · cases h
    exact ⟨0, Nat.zero_le _, .inl ⟨rfl, rfl⟩⟩
  · cases h
    rw [he] at hx
    exact ⟨len, Nat.le_trans hl hc, .inr ⟨a, cap, rfl, hx⟩⟩
section
variable {P : Program} {w0 w : World} {L : List HP} {K : Value → WP} {e es n : Nat} {v : Value} {i : Int}
theorem OldSl.len (h : OldSl P w0 e es v n) (k : K (.int .i64 n) w) : LenS v K w := by
  rcases h.2 with ⟨rfl, rfl⟩ | ⟨a, c, rfl, _⟩
  · exact k
  · exact k
theorem OldSl.elem (h : OldSl P w0 e es v n) (h0 : 0 ≤ i) (h1 : i < n) : ∃ a, (∀ K : Value → WP, ∀ w, K (.pointer (some a)) w → IA es v (.int .i64 i) K w) ∧ ∃ vs : List Value, vs.length = es ∧ (∀ j x, vs[j]? = some x → w0.cell? (a.add j) = some x) ∧ Rd P w0 e vs := by
  rcases h.2 with ⟨_, rfl⟩ | ⟨a, c, rfl, hx⟩
  · omega
  · exact ⟨a.add (i.toNat * es), fun K w hk => old_ia h0 h1 hk, hx i.toNat (by omega)⟩
end
end Go.Jac

namespace Go.Jac
open Go
theorem cells_agg (a : Array Value) : Value.cells (.agg a) = a := rfl
theorem cells_int (k : IntKind) (n : Int) : Value.cells (.int k n) = #[.int k n] := rfl
theorem cells_bool (b : Bool) : Value.cells (.bool b) = #[.bool b] := rfl
theorem cells_ptr (p : Option Addr) : Value.cells (.pointer p) = #[.pointer p] := rfl
theorem cells_sl (p : Option Addr) (n c : Nat) : Value.cells (.slice p n c) = #[.slice p n c] := rfl
theorem cells_map (p : Option Nat) : Value.cells (.map p) = #[.map p] := rfl
theorem cells_fn (f : FuncId) (x y : Array Value) : Value.cells (.func (.func f) x y) = #[.func (.func f) x y] := rfl
theorem splice0 (cs : List Value) (o : Nat) : splice cs o [] = cs := rfl
theorem spliceS (cs : List Value) (o : Nat) (v : Value) (r : List Value) : splice cs o (v :: r) = splice (cs.set o v) (o + 1) r := rfl
theorem splice_whole {cs vs : List Value} (h : vs.length = cs.length) : splice cs 0 vs = vs := by
  rw [splice_eq _ _ _ (by omega)]; simp [h]
theorem D.only (ix : List Nat) {w0 w : World} {L : List HP} (d : D w0 L w) : D w0 ((Jac.sel ix [] L).take ix.length) w := by
  have d := d.sel ix
  refine ⟨?_, d.2⟩
  have key : ∀ (n : Nat) (L : List HP) (h : Hp), Sat L h → Sat (L.take n) h := by
    intro n
    induction n with
    | zero => intro L h _; exact trivial
    | succ n ih =>
      intro L h s
      cases L with
      | nil => exact s
      | cons A L => exact s.under fun h' s' => ih L h' s'
  exact key _ _ _ d.1
theorem D.under' {w0 w : World} {A : HP} {L M : List HP} (f : ∀ h, Sat L h → Sat M h) (d : D w0 (A :: L) w) : D w0 (A :: M) w := ⟨d.1.under f, d.2⟩
/-- A fence for what hangs on nothing. -/
def One (v : Value) : Prop := v.cells = #[v] ∧ v.oneCell' = true
section
variable {P : Program} {w0 w : World} {L : List HP} {K : Value → WP} {I : WP} {B : Value → WP} {b o n m : Nat} {t : TypeId} {cs vs : List Value} {v x y z : Value}
variable {A0 A1 A2 A3 A4 A5 : HP}
theorem fill1 {c : Array Value} {i off : Nat} {v : Value} {zero : List Value} {parts : List (Nat × Value)} {pl : Nat → Option (Nat × Nat)} (h1 : pl i = some (off, 1)) (h2 : v.cells = #[v]) (hl : off < zero.length) (h : Instr.fill pl (zero.set off v).toArray parts = some c) : Instr.fill pl zero.toArray ((i, v) :: parts) = some c := by
  unfold Instr.fill
  rw [h1]
  have : ¬ (off + 1 > zero.length) := by omega
  simp [h2, this]
  exact h
theorem bld_n {zero : Array Value} {places : List (Nat × Nat)} (k : K (.agg zero) w) : Ex P (bldS zero places #[]) K w := bld_ok (cs := zero) rfl k
theorem bld_c {i off : Nat} {zero : List Value} {r : List (Nat × Value)} {places : List (Nat × Nat)} (h1 : places[i]? = some (off, 1)) (h2 : v.cells = #[v]) (hl : off < zero.length) (k : Ex P (bldS (zero.set off v).toArray places r.toArray) K w) : Ex P (bldS zero.toArray places ((i, v) :: r).toArray) K w := by
  obtain ⟨u, w', h, hk⟩ := k
  unfold bldS at h
  cases hf : Instr.fill (fun i => places[i]?) (zero.set off v).toArray r.toArray.toList with
  | none => rw [hf] at h; simp at h
  | some c =>
    rw [hf] at h
    simp only [Sem.run_pure, Result.ok.injEq] at h
    obtain ⟨rfl, rfl⟩ := h
    exact bld_ok (fill1 h1 h2 hl hf) hk
theorem fill0 {zero : Array Value} {pl : Nat → Option (Nat × Nat)} : Instr.fill pl zero [] = some zero := rfl
theorem bsl1 {elem es : Nat} {zero : Array Value} (hv : v.cells = cs.toArray) (hl : cs.length = es) (d : D w0 L w) (_h0 : es ≠ 0) (he : es ≤ 2 ^ 24) (k : ∀ b w', D w0 (cel b elem cs :: L) w' → K (.slice (some ⟨b, 0, none⟩) 1 1) w') : BSlC elem es zero 1 #[(0, v)] K w := by
  refine d_bsl cs d (by omega) ?_ k
  unfold Instr.fill
  have hz : ((Array.range (1 * es)).map (zero[· % zero.size]!)).size = es := by simp
  rw [hv]
  simp only [Nat.zero_mul, List.size_toArray, hl, ne_eq, not_true_eq_false, decide_false, Bool.false_or, hz, Nat.zero_add]
  rw [if_neg (by simp)]
  simp only [Instr.fill, Option.some.injEq]
  have key : ∀ (ks : List Value) (k : Nat) (a : Array Value), k + ks.length ≤ a.size → (ks.zipIdx k).foldl (fun a (c, j) => a.setIfInBounds j c) a = (a.toList.take k ++ ks ++ a.toList.drop (k + ks.length)).toArray := by
    intro ks
    induction ks with
    | nil => intro k a _; simp
    | cons c r ih =>
      intro k a h
      simp only [List.length_cons] at h
      rw [List.zipIdx_cons, List.foldl_cons, ih (k + 1) _ (by simp; omega)]
      have hlen := Array.length_toList (xs := a)
      have hk : k < a.toList.length := by omega
      simp only [Array.toList_setIfInBounds]
      rw [List.take_succ_eq_append_getElem (by simpa using hk), List.take_set_of_le (by omega), List.drop_set_of_lt (by omega)]
      rw [show k + 1 + r.length = k + (r.length + 1) from by omega]
      simp
  have h2 := key cs 0 ((Array.range (1 * es)).map (zero[· % zero.size]!)) (by rw [hz]; omega)
  simp only [List.take_zero, List.nil_append, Nat.zero_add] at h2
  rw [List.drop_eq_nil_of_le (by rw [Array.length_toList, hz]; omega), List.append_nil] at h2
  rw [← Array.foldl_toList, show (cs.toArray.zipIdx).toList = cs.zipIdx from by simp]
  simpa using h2
theorem bsl2 {elem : Nat} {zero : Array Value} (hx : x.cells = #[x]) (hy : y.cells = #[y]) (d : D w0 L w) (k : ∀ b w', D w0 (cel b elem [x, y] :: L) w' → K (.slice (some ⟨b, 0, none⟩) 2 2) w') : BSlC elem 1 zero 2 #[(0, x), (1, y)] K w := by
  refine d_bsl [x, y] d (by decide) ?_ k
  have e : ((Array.range (2 * 1)).map (zero[· % zero.size]!)) = [zero[0 % zero.size]!, zero[1 % zero.size]!].toArray := by
    apply Array.ext'
    simp [Array.toList_range, List.range_succ]
  rw [e]
  exact fill1 rfl hx (by simp) (fill1 rfl hy (by simp) rfl)
theorem bsl0 {elem es : Nat} {zero : Array Value} (d : D w0 L w) (k : ∀ b w', D w0 (cel b elem [] :: L) w' → K (.slice (some ⟨b, 0, none⟩) 0 0) w') : BSlC elem es zero 0 #[] K w := by
  refine d_bsl [] d (by omega) ?_ k
  simp [Instr.fill]
theorem ldp_get {j : Nat} {x : Value} (hv : (cs.drop o).take n = vs) (hx : vs[j]? = some x) : cs[o + j]? = some x := by
  subst hv
  rw [List.getElem?_take] at hx
  split at hx
  · rwa [List.getElem?_drop] at hx
  · cases hx
theorem hd_cel {cs' : List Value} (d : D w0 (cel b t cs :: L) w) (h : cs = cs') : D w0 (cel b t cs' :: L) w := h ▸ d

theorem gc0 (d : D w0 (cel b t cs :: L) w) : hw w b = some (.cells cs.toArray t (0, 0)) := d.get
theorem gc1 (d : D w0 (A0 :: cel b t cs :: L) w) : hw w b = some (.cells cs.toArray t (0, 0)) := (D.pick 1 d).get
theorem gc2 (d : D w0 (A0 :: A1 :: cel b t cs :: L) w) : hw w b = some (.cells cs.toArray t (0, 0)) := (D.pick 2 d).get
theorem gc3 (d : D w0 (A0 :: A1 :: A2 :: cel b t cs :: L) w) : hw w b = some (.cells cs.toArray t (0, 0)) := (D.pick 3 d).get
theorem gc4 (d : D w0 (A0 :: A1 :: A2 :: A3 :: cel b t cs :: L) w) : hw w b = some (.cells cs.toArray t (0, 0)) := (D.pick 4 d).get
theorem gc5 (d : D w0 (A0 :: A1 :: A2 :: A3 :: A4 :: cel b t cs :: L) w) : hw w b = some (.cells cs.toArray t (0, 0)) := (D.pick 5 d).get
inductive In (A : HP) : List HP → Prop
  | h (L : List HP) : In A (A :: L)
  | t (B : HP) (L : List HP) : In A L → In A (B :: L)
inductive Rp (A B : HP) : List HP → List HP → Prop
  | h (L : List HP) : Rp A B (A :: L) (B :: L)
  | t (C : HP) (L L' : List HP) : Rp A B L L' → Rp A B (C :: L) (C :: L')
theorem In.get (i : In (cel b t cs) L) : ∀ {h : Hp}, Sat L h → h b = some (.cells cs.toArray t (0, 0)) := by
  induction i with
  | h L => intro h s; exact s.get
  | t B L _ ih => intro h s; exact ih s.tail
theorem Rp.front {A B : HP} {L L' : List HP} (r : Rp A B L L') : ∃ M, (∀ h, Sat L h → Sat (A :: M) h) ∧ ∀ h, Sat (B :: M) h → Sat L' h := by
  induction r with
  | h L => exact ⟨L, fun _ s => s, fun _ s => s⟩
  | t C L L' _ ih =>
    obtain ⟨M, h1, h2⟩ := ih
    exact ⟨C :: M, fun h s => (s.under h1).swap, fun h s => s.swap.under h2⟩
theorem ldm (d : D w0 L w) (i : In (cel b t cs) L) (hv : cs[o]? = some v) (k : K v w) : Ld1 (.pointer (some ⟨b, o, none⟩)) K w := ld1 (i.get d.1) hv k
theorem lam (d : D w0 L w) (i : In (cel b t cs) L) (hn : cs.length = n) (k : K (.agg cs.toArray) w) : LdN n (.pointer (some ⟨b, 0, none⟩)) K w := ldN (i.get d.1) cs hn (fun _ _ hx => by rw [Nat.zero_add]; exact hx) k
theorem lpm (d : D w0 L w) (i : In (cel b t cs) L) (hv : (cs.drop o).take n = vs) (hn : vs.length = n) (k : K (.agg vs.toArray) w) : LdN n (.pointer (some ⟨b, o, none⟩)) K w := ldN (i.get d.1) vs hn (fun _ _ hx => ldp_get hv hx) k
theorem qlm (i : In (cel b t cs) L) (hv : cs[o]? = some v) (k : B v w) : QE (D w0 L) (fun KK => Ld1 (.pointer (some ⟨b, o, none⟩)) fun v => KK v) B w := qe_ld1 (fun _ d => i.get d.1) hv k
theorem qam (i : In (cel b t cs) L) (hn : cs.length = n) (k : B (.agg cs.toArray) w) : QE (D w0 L) (fun KK => LdN n (.pointer (some ⟨b, 0, none⟩)) fun v => KK v) B w := qe _ (fun _ d => lam d i hn ⟨rfl, rfl⟩) k
theorem stm {L' : List HP} (d : D w0 L w) (r : Rp (cel b t cs) (cel b t (splice cs o v.cells.toList)) L L') (hn : v.cells.size = n) (hl : o + n ≤ cs.length) (h1 : ∀ x ∈ v.cells.toList, x.oneCell' = true) (k : ∀ w', D w0 L' w' → K undef w') : St n (.pointer (some ⟨b, o, none⟩)) v K w := by
  obtain ⟨M, f1, f2⟩ := r.front
  exact d_st (L := M) ⟨f1 _ d.1, d.2⟩ hn hl h1 fun w' d => k w' ⟨f2 _ d.1, d.2⟩
theorem swm {L' : List HP} (d : D w0 L w) (r : Rp (cel b t cs) (cel b t v.cells.toList) L L') (hn : v.cells.size = n) (hl : cs.length = n) (h1 : ∀ x ∈ v.cells.toList, x.oneCell' = true) (k : ∀ w', D w0 L' w' → K undef w') : St n (.pointer (some ⟨b, 0, none⟩)) v K w := by
  obtain ⟨M, f1, f2⟩ := r.front
  exact d_st (L := M) ⟨f1 _ d.1, d.2⟩ hn (by omega) h1 fun w' d => k w' ⟨f2 _ (by rw [splice_whole (by rw [Array.length_toList]; omega)] at d; exact d.1), d.2⟩
theorem stw0 (d : D w0 (cel b t cs :: L) w) (hn : v.cells.size = n) (hl : cs.length = n) (h1 : ∀ x ∈ v.cells.toList, x.oneCell' = true) (k : ∀ w', D w0 (cel b t v.cells.toList :: L) w' → K undef w') : St n (.pointer (some ⟨b, 0, none⟩)) v K w := swm d (.h L) hn hl h1 k
theorem fn00 {f : FuncId} (he : ∀ args w, (callFunc f args).run P w = .ok (.enter f args) w) (h : Cl P f #[] K w) : FnV P (.func (.func f) #[] #[]) #[] K w := .inl ⟨he, by simpa using h⟩
theorem fn01 {f : FuncId} {c0 : Value} (he : ∀ args w, (callFunc f args).run P w = .ok (.enter f args) w) (h : Cl P f #[c0] K w) : FnV P (.func (.func f) #[] #[c0]) #[] K w := .inl ⟨he, by simpa using h⟩
theorem fn02 {f : FuncId} {c0 c1 : Value} (he : ∀ args w, (callFunc f args).run P w = .ok (.enter f args) w) (h : Cl P f #[c0, c1] K w) : FnV P (.func (.func f) #[] #[c0, c1]) #[] K w := .inl ⟨he, by simpa using h⟩
theorem fn03 {f : FuncId} {c0 c1 c2 : Value} (he : ∀ args w, (callFunc f args).run P w = .ok (.enter f args) w) (h : Cl P f #[c0, c1, c2] K w) : FnV P (.func (.func f) #[] #[c0, c1, c2]) #[] K w := .inl ⟨he, by simpa using h⟩
theorem fn04 {f : FuncId} {c0 c1 c2 c3 : Value} (he : ∀ args w, (callFunc f args).run P w = .ok (.enter f args) w) (h : Cl P f #[c0, c1, c2, c3] K w) : FnV P (.func (.func f) #[] #[c0, c1, c2, c3]) #[] K w := .inl ⟨he, by simpa using h⟩
theorem fn10 {f : FuncId} {x0 : Value} (he : ∀ args w, (callFunc f args).run P w = .ok (.enter f args) w) (h : Cl P f #[x0] K w) : FnV P (.func (.func f) #[] #[]) #[x0] K w := .inl ⟨he, by simpa using h⟩
theorem fn11 {f : FuncId} {x0 c0 : Value} (he : ∀ args w, (callFunc f args).run P w = .ok (.enter f args) w) (h : Cl P f #[x0, c0] K w) : FnV P (.func (.func f) #[] #[c0]) #[x0] K w := .inl ⟨he, by simpa using h⟩
theorem fn12 {f : FuncId} {x0 c0 c1 : Value} (he : ∀ args w, (callFunc f args).run P w = .ok (.enter f args) w) (h : Cl P f #[x0, c0, c1] K w) : FnV P (.func (.func f) #[] #[c0, c1]) #[x0] K w := .inl ⟨he, by simpa using h⟩
theorem fn13 {f : FuncId} {x0 c0 c1 c2 : Value} (he : ∀ args w, (callFunc f args).run P w = .ok (.enter f args) w) (h : Cl P f #[x0, c0, c1, c2] K w) : FnV P (.func (.func f) #[] #[c0, c1, c2]) #[x0] K w := .inl ⟨he, by simpa using h⟩
theorem fn14 {f : FuncId} {x0 c0 c1 c2 c3 : Value} (he : ∀ args w, (callFunc f args).run P w = .ok (.enter f args) w) (h : Cl P f #[x0, c0, c1, c2, c3] K w) : FnV P (.func (.func f) #[] #[c0, c1, c2, c3]) #[x0] K w := .inl ⟨he, by simpa using h⟩
theorem fn20 {f : FuncId} {x0 x1 : Value} (he : ∀ args w, (callFunc f args).run P w = .ok (.enter f args) w) (h : Cl P f #[x0, x1] K w) : FnV P (.func (.func f) #[] #[]) #[x0, x1] K w := .inl ⟨he, by simpa using h⟩
theorem fn21 {f : FuncId} {x0 x1 c0 : Value} (he : ∀ args w, (callFunc f args).run P w = .ok (.enter f args) w) (h : Cl P f #[x0, x1, c0] K w) : FnV P (.func (.func f) #[] #[c0]) #[x0, x1] K w := .inl ⟨he, by simpa using h⟩
theorem fn22 {f : FuncId} {x0 x1 c0 c1 : Value} (he : ∀ args w, (callFunc f args).run P w = .ok (.enter f args) w) (h : Cl P f #[x0, x1, c0, c1] K w) : FnV P (.func (.func f) #[] #[c0, c1]) #[x0, x1] K w := .inl ⟨he, by simpa using h⟩
theorem fn23 {f : FuncId} {x0 x1 c0 c1 c2 : Value} (he : ∀ args w, (callFunc f args).run P w = .ok (.enter f args) w) (h : Cl P f #[x0, x1, c0, c1, c2] K w) : FnV P (.func (.func f) #[] #[c0, c1, c2]) #[x0, x1] K w := .inl ⟨he, by simpa using h⟩
theorem fn24 {f : FuncId} {x0 x1 c0 c1 c2 c3 : Value} (he : ∀ args w, (callFunc f args).run P w = .ok (.enter f args) w) (h : Cl P f #[x0, x1, c0, c1, c2, c3] K w) : FnV P (.func (.func f) #[] #[c0, c1, c2, c3]) #[x0, x1] K w := .inl ⟨he, by simpa using h⟩
theorem fn30 {f : FuncId} {x0 x1 x2 : Value} (he : ∀ args w, (callFunc f args).run P w = .ok (.enter f args) w) (h : Cl P f #[x0, x1, x2] K w) : FnV P (.func (.func f) #[] #[]) #[x0, x1, x2] K w := .inl ⟨he, by simpa using h⟩
theorem fn31 {f : FuncId} {x0 x1 x2 c0 : Value} (he : ∀ args w, (callFunc f args).run P w = .ok (.enter f args) w) (h : Cl P f #[x0, x1, x2, c0] K w) : FnV P (.func (.func f) #[] #[c0]) #[x0, x1, x2] K w := .inl ⟨he, by simpa using h⟩
theorem fn32 {f : FuncId} {x0 x1 x2 c0 c1 : Value} (he : ∀ args w, (callFunc f args).run P w = .ok (.enter f args) w) (h : Cl P f #[x0, x1, x2, c0, c1] K w) : FnV P (.func (.func f) #[] #[c0, c1]) #[x0, x1, x2] K w := .inl ⟨he, by simpa using h⟩
theorem fn33 {f : FuncId} {x0 x1 x2 c0 c1 c2 : Value} (he : ∀ args w, (callFunc f args).run P w = .ok (.enter f args) w) (h : Cl P f #[x0, x1, x2, c0, c1, c2] K w) : FnV P (.func (.func f) #[] #[c0, c1, c2]) #[x0, x1, x2] K w := .inl ⟨he, by simpa using h⟩
theorem fn34 {f : FuncId} {x0 x1 x2 c0 c1 c2 c3 : Value} (he : ∀ args w, (callFunc f args).run P w = .ok (.enter f args) w) (h : Cl P f #[x0, x1, x2, c0, c1, c2, c3] K w) : FnV P (.func (.func f) #[] #[c0, c1, c2, c3]) #[x0, x1, x2] K w := .inl ⟨he, by simpa using h⟩
theorem fn40 {f : FuncId} {x0 x1 x2 x3 : Value} (he : ∀ args w, (callFunc f args).run P w = .ok (.enter f args) w) (h : Cl P f #[x0, x1, x2, x3] K w) : FnV P (.func (.func f) #[] #[]) #[x0, x1, x2, x3] K w := .inl ⟨he, by simpa using h⟩
theorem fn50 {f : FuncId} {x0 x1 x2 x3 x4 : Value} (he : ∀ args w, (callFunc f args).run P w = .ok (.enter f args) w) (h : Cl P f #[x0, x1, x2, x3, x4] K w) : FnV P (.func (.func f) #[] #[]) #[x0, x1, x2, x3, x4] K w := .inl ⟨he, by simpa using h⟩
theorem fn60 {f : FuncId} {x0 x1 x2 x3 x4 x5 : Value} (he : ∀ args w, (callFunc f args).run P w = .ok (.enter f args) w) (h : Cl P f #[x0, x1, x2, x3, x4, x5] K w) : FnV P (.func (.func f) #[] #[]) #[x0, x1, x2, x3, x4, x5] K w := .inl ⟨he, by simpa using h⟩
theorem fn70 {f : FuncId} {x0 x1 x2 x3 x4 x5 x6 : Value} (he : ∀ args w, (callFunc f args).run P w = .ok (.enter f args) w) (h : Cl P f #[x0, x1, x2, x3, x4, x5, x6] K w) : FnV P (.func (.func f) #[] #[]) #[x0, x1, x2, x3, x4, x5, x6] K w := .inl ⟨he, by simpa using h⟩
theorem ia0 {es len c : Nat} {k : IntKind} {i : Int} (h0 : 0 ≤ i) (h1 : i < (len : Int)) (hk : K (.pointer (some ⟨b, i.toNat * es, none⟩)) w) : IA es (.slice (some ⟨b, 0, none⟩) len c) (.int k i) K w :=
  ia_ok h0 h1 (by rw [Nat.zero_add]; exact hk)
theorem In.front {A : HP} (i : In A L) : ∃ M, ∀ h, Sat L h → Sat (A :: M) h := by
  induction i with
  | h L => exact ⟨L, fun _ s => s⟩
  | t B L _ ih =>
    obtain ⟨M, h1⟩ := ih
    exact ⟨B :: M, fun h s => (s.under h1).swap⟩
section
variable {α : Type} {f : α → List Value} {S : List α} {elem es j : Nat} {sv : Value}
/-- An element of a row, wherever the row stands in the list. -/
theorem rw_at (d : D w0 L w) (i : In (Rw elem es sv S.length (S.flatMap f)) L) (hf : ∀ x, (f x).length = es) (hn : n < S.length) :
    ∃ (b : Nat) (cs : List Value), (∀ K : Value → WP, K (.pointer (some ⟨b, n * es, none⟩)) w → IA es sv (.int .i64 n) K w) ∧ hw w b = some (.cells cs.toArray elem (0, 0)) ∧ ∀ j x, (f S[n])[j]? = some x → cs[n * es + j]? = some x := by
  obtain ⟨M, h⟩ := i.front
  obtain ⟨b, cap, cs, rfl, g, hc⟩ := rec_at (i := (n : Int)) (L := M) hf ⟨h _ d.1, d.2⟩ (by omega) (by omega)
  exact ⟨b, cs, fun K k => ia0 (by omega) (by omega) (by simpa using k), g, fun j x hx => by simpa using hc j x (by simpa using hx)⟩
theorem rw_fld (d : D w0 L w) (i : In (Rw elem es sv S.length (S.flatMap f)) L) (hf : ∀ x, (f x).length = es) (hn : n < S.length) (hv : (f S[n])[j]? = some v) (k : K v w) : IA es sv (.int .i64 n) (fun p => FA p j fun q => Ld1 q fun u => K u) w := by
  obtain ⟨b, cs, h1, g, hc⟩ := rw_at d i hf hn
  refine h1 _ ?_
  rw [FA_p]
  exact ld1 g (hc j v hv) k
theorem rw_el1 (d : D w0 L w) (i : In (Rw elem es sv S.length (S.flatMap f)) L) (hf : ∀ x, (f x).length = es) (hn : n < S.length) (hv : (f S[n])[0]? = some v) (k : K v w) : IA es sv (.int .i64 n) (fun p => Ld1 p fun u => K u) w := by
  obtain ⟨b, cs, h1, g, hc⟩ := rw_at d i hf hn
  exact h1 _ (ld1 g (hc 0 v hv) k)
theorem rw_elN (d : D w0 L w) (i : In (Rw elem es sv S.length (S.flatMap f)) L) (hf : ∀ x, (f x).length = es) (hn : n < S.length) (k : K (.agg (f S[n]).toArray) w) : IA es sv (.int .i64 n) (fun p => LdN es p fun u => K u) w := by
  obtain ⟨b, cs, h1, g, hc⟩ := rw_at d i hf hn
  exact h1 _ (ldN g (f S[n]) (hf _) hc k)
theorem rw_ptr {cs : List Value} (d : D w0 L w) (i : In (Rw elem es sv n cs) L) (hn : 0 < n) : ∃ b c, sv = .slice (some ⟨b, 0, none⟩) n c := by
  obtain ⟨M, h⟩ := i.front
  obtain ⟨b, c, junk, e, _⟩ := Rw.block (h _ d.1) hn
  exact ⟨b, c, e⟩
theorem qia {c m : Nat} {k : IntKind} (hn : n < m) (kk : B (.pointer (some ⟨b, n * es, none⟩)) w) : QE I (fun KK => IA es (.slice (some ⟨b, 0, none⟩) m c) (.int k (n : Int)) fun v => KK v) B w :=
  qe _ (fun _ _ => ia0 (by omega) (by omega) ⟨by simp, rfl⟩) kk
theorem qia0 {c m : Nat} {k : IntKind} (hn : 0 < m) (kk : B (.pointer (some ⟨b, 0, none⟩)) w) : QE I (fun KK => IA es (.slice (some ⟨b, 0, none⟩) m c) (.int k 0) fun v => KK v) B w :=
  qe _ (fun _ _ => ia0 (by omega) (by omega) ⟨by simp, rfl⟩) kk
theorem rw_cells {c m : Nat} (d : D w0 L w) (i : In (Rw elem es (.slice (some ⟨b, 0, none⟩) m c) S.length (S.flatMap f)) L) (hf : ∀ x, (f x).length = es) (hn : n < S.length) : ∃ cs : List Value, hw w b = some (.cells cs.toArray elem (0, 0)) ∧ ∀ j x, (f S[n])[j]? = some x → cs[n * es + j]? = some x := by
  obtain ⟨M, h⟩ := i.front
  obtain ⟨b', cap, cs, e, g, hc⟩ := rec_at (i := (n : Int)) (L := M) hf ⟨h _ d.1, d.2⟩ (by omega) (by omega)
  injection e with e1 e2 e3
  injection e1 with e1
  injection e1 with e1
  subst e1
  exact ⟨cs, g, fun j x hx => by simpa using hc j x (by simpa using hx)⟩
theorem qln {c m : Nat} (i : In (Rw elem es (.slice (some ⟨b, 0, none⟩) m c) S.length (S.flatMap f)) L) (hf : ∀ x, (f x).length = es) (hn : n < S.length) (k : B (.agg (f S[n]).toArray) w) : QE (D w0 L) (fun KK => LdN es (.pointer (some ⟨b, n * es, none⟩)) fun v => KK v) B w :=
  qe _ (fun w' d => by
    obtain ⟨cs, g, hc⟩ := rw_cells d i hf hn
    exact ldN g (f S[n]) (hf _) hc ⟨rfl, rfl⟩) k
theorem ql1 {c m : Nat} (i : In (Rw elem es (.slice (some ⟨b, 0, none⟩) m c) S.length (S.flatMap f)) L) (hf : ∀ x, (f x).length = es) (hn : n < S.length) (hv : (f S[n])[j]? = some v) (k : B v w) : QE (D w0 L) (fun KK => Ld1 (.pointer (some ⟨b, n * es + j, none⟩)) fun v => KK v) B w :=
  qe _ (fun w' d => by
    obtain ⟨cs, g, hc⟩ := rw_cells d i hf hn
    exact ld1 g (hc j v hv) ⟨rfl, rfl⟩) k
theorem ql0 {c m : Nat} (i : In (Rw elem es (.slice (some ⟨b, 0, none⟩) m c) S.length (S.flatMap f)) L) (hf : ∀ x, (f x).length = es) (hn : n < S.length) (hv : (f S[n])[0]? = some v) (k : B v w) : QE (D w0 L) (fun KK => Ld1 (.pointer (some ⟨b, n * es, none⟩)) fun v => KK v) B w :=
  ql1 (j := 0) i hf hn hv k
/-- An element written anew. -/
theorem rw_set {L' : List HP} {m o : Nat} (d : D w0 L w) (hn : n < S.length) (y : α) (r : Rp (Rw elem es sv S.length (S.flatMap f)) (Rw elem es sv (S.set n y).length ((S.set n y).flatMap f)) L L') (hf : ∀ x, (f x).length = es) (hm : v.cells.size = m) (ho : o + m ≤ es)
    (hc : ∀ x ∈ v.cells.toList, x.oneCell' = true) (hy : splice (f S[n]) o v.cells.toList = f y) :
    ∃ b : Nat, (∀ K : Value → WP, K (.pointer (some ⟨b, n * es, none⟩)) w → IA es sv (.int .i64 n) K w) ∧ ∀ K : Value → WP, (∀ w', D w0 L' w' → K undef w') → St m (.pointer (some ⟨b, n * es + o, none⟩)) v K w := by
  obtain ⟨M, f1, f2⟩ := r.front
  have d1 : D w0 (Rw elem es sv S.length (S.flatMap f) :: M) w := ⟨f1 _ d.1, d.2⟩
  obtain ⟨b, cap, cs, rfl, g, hc'⟩ := rec_at (i := (n : Int)) hf d1 (by omega) (by omega)
  refine ⟨b, fun K k => ia0 (by omega) (by omega) (by simpa using k), fun K k => ?_⟩
  refine rec_st (i := (n : Int)) hf d1 (by omega) (by omega) (o := o) (by simp) hm ho hc y (by simpa using hy) fun w' d' => k w' ⟨f2 _ (by simpa using d'.1), d'.2⟩
theorem rw_st {L' : List HP} (d : D w0 L w) (hn : n < S.length) (y : α) (r : Rp (Rw elem es sv S.length (S.flatMap f)) (Rw elem es sv (S.set n y).length ((S.set n y).flatMap f)) L L') (hf : ∀ x, (f x).length = es) (hv : v.cells.toList = f y)
    (hc : ∀ x ∈ f y, x.oneCell' = true) (k : ∀ w', D w0 L' w' → K undef w') : IA es sv (.int .i64 n) (fun p => St es p v K) w := by
  obtain ⟨b, h1, h2⟩ := rw_set (o := 0) (m := es) d hn y r hf (by rw [← Array.length_toList, hv, hf]) (by omega) (by rw [hv]; exact hc) (by rw [hv, splice_whole (by rw [hf, hf])])
  exact h1 _ (by simpa using h2 K k)
theorem rw_stf {L' : List HP} {m o : Nat} (d : D w0 L w) (hn : n < S.length) (y : α) (r : Rp (Rw elem es sv S.length (S.flatMap f)) (Rw elem es sv (S.set n y).length ((S.set n y).flatMap f)) L L') (hf : ∀ x, (f x).length = es) (hm : v.cells.size = m) (ho : o + m ≤ es)
    (hc : ∀ x ∈ v.cells.toList, x.oneCell' = true) (hy : splice (f S[n]) o v.cells.toList = f y) (k : ∀ w', D w0 L' w' → K undef w') : IA es sv (.int .i64 n) (fun p => FA p o fun q => St m q v K) w := by
  obtain ⟨b, h1, h2⟩ := rw_set d hn y r hf hm ho hc hy
  refine h1 _ ?_
  rw [FA_p]
  exact h2 K k
theorem rw_fld0 (d : D w0 L w) (i : In (Rw elem es sv S.length (S.flatMap f)) L) (hf : ∀ x, (f x).length = es) (hn : 0 < S.length) (hv : (f S[0])[j]? = some v) (k : K v w) : IA es sv (.int .i64 0) (fun p => FA p j fun q => Ld1 q fun u => K u) w := rw_fld (n := 0) d i hf hn hv k
theorem rw_el10 (d : D w0 L w) (i : In (Rw elem es sv S.length (S.flatMap f)) L) (hf : ∀ x, (f x).length = es) (hn : 0 < S.length) (hv : (f S[0])[0]? = some v) (k : K v w) : IA es sv (.int .i64 0) (fun p => Ld1 p fun u => K u) w := rw_el1 (n := 0) d i hf hn hv k
theorem rw_elN0 (d : D w0 L w) (i : In (Rw elem es sv S.length (S.flatMap f)) L) (hf : ∀ x, (f x).length = es) (hn : 0 < S.length) (k : K (.agg (f S[0]).toArray) w) : IA es sv (.int .i64 0) (fun p => LdN es p fun u => K u) w := rw_elN (n := 0) d i hf hn k
end
/-- The pure steps, as one fact for simp. -/
theorem SEM : (type_of% @NilC_p) ∧ (type_of% @NilC_f) ∧ (type_of% @NilC_y) ∧ (type_of% @FA_p) ∧ (type_of% @Ext_20) ∧ (type_of% @Ext_21) ∧ (type_of% @Ext_30) ∧ (type_of% @Ext_31) ∧ (type_of% @Ext_32) ∧ (type_of% @Ext_40) ∧ (type_of% @Ext_41) ∧ (type_of% @Ext_42) ∧ (type_of% @Ext_43) ∧ (type_of% @LenS_s) ∧ (type_of% @ConvI_i) ∧ (type_of% @Cnd_b) ∧ (type_of% @Grd_t) ∧ (type_of% @Grd_f) ∧ (type_of% @BinI_add) ∧ (type_of% @BinI_sub) ∧ (type_of% @BinI_mul) ∧ (type_of% @BinI_quo) ∧ (type_of% @BinI_rem) ∧ (type_of% @BinI_and) ∧ (type_of% @BinI_or) ∧ (type_of% @BinI_xor) ∧ (type_of% @BinI_andNot) ∧ (type_of% @BinI_eql) ∧ (type_of% @BinI_neq) ∧ (type_of% @BinI_lss) ∧ (type_of% @BinI_leq) ∧ (type_of% @BinI_gtr) ∧ (type_of% @BinI_geq) ∧ (type_of% @BinI_shl) ∧ (type_of% @BinI_shr) ∧ (type_of% @Pick_b) ∧ (type_of% @Un_not) ∧ (type_of% @Un_neg) ∧ (type_of% @EqB_b) ∧ (type_of% @EqP_pn) ∧ (type_of% @EqP_nn) ∧ (type_of% @EqP_np) ∧ (type_of% @cells_agg) ∧ (type_of% @cells_int) ∧ (type_of% @cells_bool) ∧ (type_of% @cells_ptr) ∧ (type_of% @cells_sl) ∧ (type_of% @cells_map) ∧ (type_of% @cells_fn) ∧ (type_of% @decide_eq_true_eq) ∧ (type_of% @decide_eq_false_iff_not) ∧ (type_of% @Bool.not_eq_true) ∧ (type_of% @Bool.not_eq_false) ∧ (type_of% @Bool.true_eq_false) ∧ (type_of% @Bool.false_eq_true) ∧ (type_of% @Bool.not_true) ∧ (type_of% @Bool.not_false) ∧ (type_of% @Bool.not_eq_eq_eq_not) ∧ (type_of% @true_implies) ∧ (type_of% @false_implies) ∧ (type_of% @and_true) ∧ (type_of% @true_and) ∧ (type_of% @not_true_eq_false) ∧ (type_of% @not_false_eq_true) ∧ (type_of% @and_self) ∧ (type_of% @Nat.zero_add) ∧ (type_of% @Int.toNat_natCast) ∧ (type_of% @Int.toNat_zero) ∧ (∀ (a : Value) (l : List Value) (i : Nat), (a :: l).drop (i + 1) = l.drop i) ∧ (∀ (l : List Value), l.drop 0 = l) ∧ (∀ (a : Value) (l : List Value) (i : Nat), (a :: l).take (i + 1) = a :: l.take i) ∧ (∀ (l : List Value), l.take 0 = []) ∧ (∀ (α : Prop), (α → True) = True) ∧ (∀ (a b : Value), cond true a b = a) ∧ (∀ (a b : Value), cond false a b = b) ∧ (∀ (a b : Bool), cond true a b = a) ∧ (∀ (a b : Bool), cond false a b = b) :=
  ⟨@NilC_p, @NilC_f, @NilC_y, @FA_p, @Ext_20, @Ext_21, @Ext_30, @Ext_31, @Ext_32, @Ext_40, @Ext_41, @Ext_42, @Ext_43, @LenS_s, @ConvI_i, @Cnd_b, @Grd_t, @Grd_f, @BinI_add, @BinI_sub, @BinI_mul, @BinI_quo, @BinI_rem, @BinI_and, @BinI_or, @BinI_xor, @BinI_andNot, @BinI_eql, @BinI_neq, @BinI_lss, @BinI_leq, @BinI_gtr, @BinI_geq, @BinI_shl, @BinI_shr, @Pick_b, @Un_not, @Un_neg, @EqB_b, @EqP_pn, @EqP_nn, @EqP_np, @cells_agg, @cells_int, @cells_bool, @cells_ptr, @cells_sl, @cells_map, @cells_fn, @decide_eq_true_eq, @decide_eq_false_iff_not, @Bool.not_eq_true, @Bool.not_eq_false, @Bool.true_eq_false, @Bool.false_eq_true, @Bool.not_true, @Bool.not_false, @Bool.not_eq_eq_eq_not, @true_implies, @false_implies, @and_true, @true_and, @not_true_eq_false, @not_false_eq_true, @and_self, @Nat.zero_add, @Int.toNat_natCast, @Int.toNat_zero, (fun _ _ _ => rfl), (fun _ => rfl), (fun _ _ _ => rfl), (fun l => by simp), (fun α => implies_true α), (fun _ _ => rfl), (fun _ _ => rfl), (fun _ _ => rfl), (fun _ _ => rfl)⟩
theorem SPL : (∀ (cs : List Value) (o : Nat), splice cs o [] = cs) ∧ (∀ (cs : List Value) (o : Nat) (v : Value) (r : List Value), splice cs o (v :: r) = splice (cs.set o v) (o + 1) r) ∧ (∀ (a v : Value) (l : List Value), (a :: l).set 0 v = v :: l) ∧ (∀ (a v : Value) (l : List Value) (i : Nat), (a :: l).set (i + 1) v = a :: l.set i v) ∧ (∀ (l : List Value), l.toArray.toList = l) ∧ (∀ n : Nat, 0 + n = n) ∧ (type_of% @cells_agg) ∧ (type_of% @cells_int) ∧ (type_of% @cells_bool) ∧ (type_of% @cells_ptr) ∧ (type_of% @cells_sl) ∧ (type_of% @cells_map) ∧ (type_of% @cells_fn) :=
  ⟨(fun _ _ => rfl), (fun _ _ _ _ => rfl), (fun _ _ _ => rfl), (fun _ _ _ _ => rfl), (fun _ => rfl), (Nat.zero_add), @cells_agg, @cells_int, @cells_bool, @cells_ptr, @cells_sl, @cells_map, @cells_fn⟩
end
end Go.Jac

namespace Go.Jac
open Go
/-- The first place that fits; -1: there is none. -/
def fidx {α : Type} (p : α → Bool) (l : List α) : Int := if l.findIdx p < l.length then (l.findIdx p : Int) else -1
section
variable {P : Program} {w0 w : World} {L : List HP} {K : Value → WP} {elem es bytes n m : Nat} {sv y : Value} {cs X Y Z : List Value} {zero : Array Value}
variable {α : Type} {f : α → List Value} {p : α → Bool} {S : List α}
theorem src_rw (d : D w0 (Rw elem es sv n cs :: L) w) (h1 : ∀ u ∈ cs, u.oneCell' = true) : SrcV es sv n cs w := by
  obtain ⟨⟨h1', h2, s, hr, l⟩, _⟩ := d
  rcases hr with ⟨rfl, rfl, rfl⟩ | ⟨b, cap, junk, rfl, hle, hl, hl2, hb⟩
  · exact .nil 0 rfl rfl rfl
  · refine .slice ⟨b, 0, none⟩ cap rfl hl (fun j u hu => ?_) h1
    have g : hw w b = some (.cells (cs ++ junk).toArray elem (0, 0)) := s.l hb
    rw [add_of, cell_of g, Nat.zero_add, List.getElem?_append_left (List.getElem?_eq_some_iff.1 hu).1]
    exact hu
/-! ### The first that fits -/
def GIdxF (P : Program) (LD : Value → (Value → WP) → WP) (es : Nat) (a0 a1 : Value) (KR : Value → WP) : WP :=
  LenS a0 fun v7 =>
  LoopC [(.int .i64 0), (.int .i64 0)] fun vK vs => AllE <|
  UN vs fun v4 vs =>
  UN vs fun v8 _ =>
  BinI .lss v8 v7 fun v9 =>
  Cnd v9 (IA es a0 v8 fun v14 =>
  LD v14 fun v15 =>
  FnV P a1 #[v15] fun v16 =>
  Cnd v16 (KR v8)
  (BinI .add v8 (.int .i64 1) fun v18 =>
  vK [v4, v18]))
  (KR (.int .i64 (-1)))
theorem gidxf_ok {LD : Value → (Value → WP) → WP} {enc : α → Value} (hf : ∀ x, (f x).length = es) (hS : S.length ≤ 4294967296)
    (hld : ∀ (b o : Nat) (x : α) (t : TypeId) (cs : List Value) (w : World) (K : Value → WP), hw w b = some (.cells cs.toArray t (0, 0)) → (∀ j v, (f x)[j]? = some v → cs[o + j]? = some v) → K (enc x) w → LD (.pointer (some ⟨b, o, none⟩)) K w)
    (d : D w0 (Rw elem es sv S.length (S.flatMap f) :: L) w)
    (hy : ∀ (x : α) (w : World) (K : Value → WP), x ∈ S → D w0 (Rw elem es sv S.length (S.flatMap f) :: L) w → (∀ w', D w0 (Rw elem es sv S.length (S.flatMap f) :: L) w' → K (.bool (p x)) w') → FnV P y #[enc x] K w)
    (k : ∀ w', D w0 (Rw elem es sv S.length (S.flatMap f) :: L) w' → K (.int .i64 (fidx p S)) w') : GIdxF P LD es sv y K w := by
  obtain ⟨q, c, rfl, -⟩ := Rw.shape d.1
  unfold GIdxF
  rw [LenS_s]
  refine ⟨fun vs w' => ∃ (u : Value) (i : Nat), vs = [u, .int .i64 i] ∧ i ≤ S.findIdx p ∧ D w0 (Rw elem es (.slice q S.length c) S.length (S.flatMap f) :: L) w', fun vs _ => match vs with | [_, .int _ i] => S.length - i.toNat | _ => 0, ⟨_, 0, rfl, by omega, d⟩, ?_⟩
  rintro _ w' ⟨u, i, rfl, hi, d'⟩ _
  have hle : S.findIdx p ≤ S.length := List.findIdx_le_length
  simp only [UN, SEM]
  refine ⟨fun hlt => ?_, fun hge => ?_⟩
  · have hlt' : i < S.length := by omega
    obtain ⟨b, cap, cs, e, g, hc⟩ := rec_at hf d' (i := (i : Int)) (by omega) hlt
    cases e
    refine ia_ok (by omega) hlt ?_
    refine hld _ _ S[i] _ _ _ _ g (fun j x hx => ?_) ?_
    · rw [Nat.zero_add]; exact hc j x hx
    refine hy S[i] w' _ (List.getElem_mem _) d' fun w2 d2 => ?_
    simp only [SEM]
    refine ⟨fun hz => ?_, fun hz => ?_⟩
    · have e : S.findIdx p = i := by
        rcases Nat.lt_or_ge i (S.findIdx p) with h | h
        · have := List.not_of_lt_findIdx h
          rw [hz] at this; cases this
        · omega
      have := k _ d2
      rwa [fidx, if_pos (by omega), e] at this
    · have : i < S.findIdx p := by
        rcases Nat.lt_or_ge i (S.findIdx p) with h | h
        · exact h
        · have e : i = S.findIdx p := by omega
          have := List.findIdx_getElem (p := p) (xs := S) (w := by omega)
          subst e
          rw [this] at hz; cases hz
      rw [w64 (by omega) (by omega)]
      exact ⟨⟨u, i + 1, by simp, this, d2⟩, by show S.length - ((i : Int) + 1).toNat < S.length - (i : Int).toNat; omega⟩
  · have := k _ d'
    rwa [fidx, if_neg (by omega)] at this
theorem hldN (b o : Nat) (x : α) (t : TypeId) (cs : List Value) (w : World) (K : Value → WP) (hf : ∀ x, (f x).length = es) (g : hw w b = some (.cells cs.toArray t (0, 0))) (hc : ∀ j v, (f x)[j]? = some v → cs[o + j]? = some v) (k : K (.agg (f x).toArray) w) : LdN es (.pointer (some ⟨b, o, none⟩)) K w :=
  ldN g (f x) (hf x) hc k
theorem hld1 (b o : Nat) (x : Value) (t : TypeId) (cs : List Value) (w : World) (K : Value → WP) (g : hw w b = some (.cells cs.toArray t (0, 0))) (hc : ∀ j v, [x][j]? = some v → cs[o + j]? = some v) (k : K x w) : Ld1 (.pointer (some ⟨b, o, none⟩)) K w :=
  ld1 g (by simpa using hc 0 x rfl) k
/-! ### A copy -/
theorem slnil {t e : TypeId} {a : Option Addr} {n c : Nat} {ox oy : Operand} (ht : P.underlying t = some (.slice e)) (k : K (.bool a.isNone) w) : BinX P .eql t ox oy (.slice a n c) (.slice none 0 0) K w := by
  have hg : (eqGuard .eql t ox oy (.slice a n c) (.slice none 0 0)).run P w = .ok () w := by unfold eqGuard; rfl
  exact ⟨_, w, by rw [Sem.run_bind, hg]; exact Lib.run_eql_slice_nil w t e a n c 0 0 ht, k⟩
def GClone (P : Program) (t : TypeId) (ox : Operand) (elem es bytes : Nat) (zero : Array Value) (a0 : Value) (KR : Value → WP) : WP :=
  BinX P .eql t ox (.const (.slice none 0 0)) a0 (.slice none 0 0) fun v4 =>
  Cnd v4 (KR (.slice none 0 0))
  (BSlC elem es zero 0 #[] fun v5 =>
  AppC elem es bytes zero v5 a0 fun v7 =>
  KR v7)
theorem gclone_src {t : TypeId} {ox : Operand} (ht : P.underlying t = some (.slice elem)) (hz : zero.size = es) (h1 : ∀ u ∈ cs, u.oneCell' = true) (hb : n * bytes ≤ 140737488355328) (h63 : n < 4611686018427387904) (d : D w0 L w) (hsl : ∃ q m c, sv = .slice q m c)
    (hs : ∀ w', D w0 L w' → SrcV es sv n cs w')
    (k : ∀ sv' w', D w0 (Rw elem es sv' n cs :: L) w' → K sv' w') : GClone P t ox elem es bytes zero sv K w := by
  obtain ⟨q, m, c, rfl⟩ := hsl
  unfold GClone
  refine slnil ht ?_
  rw [Cnd_b]
  refine ⟨fun hq => ?_, fun hq => ?_⟩
  · refine k _ _ ?_
    have : n = 0 ∧ cs = [] := by
      rcases hs _ d with ⟨a, c', h, _⟩ | ⟨c', h, hn, hc⟩
      · injection h with h; subst h; cases hq
      · exact ⟨hn, hc⟩
    obtain ⟨rfl, rfl⟩ := this
    exact ⟨Rw.nil _ _ d.1, d.2⟩
  · refine bsl0 d fun b w' d' => ?_
    have d1 : D w0 (Rw elem es (.slice (some ⟨b, 0, none⟩) 0 0) 0 [] :: L) w' := ⟨Rw.mk (junk := []) (cs := []) d'.1 (Nat.le_refl _) (by simp) (by simp), d'.2⟩
    have hs' := hs _ d'.tail
    rcases Nat.eq_zero_or_pos n with h0 | h0
    · subst h0
      have hc0 : cs = [] := by
        have hl : cs.length = 0 * es := by
          rcases hs' with ⟨a, c', h, hl, _⟩ | ⟨c', h, hn, hc⟩
          · exact hl
          · simp [hc]
        exact List.length_eq_zero_iff.1 (by simpa using hl)
      subst hc0
      exact ⟨_, _, _, 0, [], rfl, hs', .inl ⟨rfl, Nat.le_refl _, k _ _ d1⟩⟩
    · refine d_app d1 hs' hz h0 (by simpa using hb) (by simpa using h63) h1 fun sv' w2 d2 => ?_
      simp only [Nat.zero_add, List.nil_append] at d2
      exact k _ _ d2
theorem gclone_ok {t : TypeId} {ox : Operand} (ht : P.underlying t = some (.slice elem)) (hz : zero.size = es) (h1 : ∀ u ∈ cs, u.oneCell' = true) (hb : n * bytes ≤ 140737488355328) (h63 : n < 4611686018427387904) (d : D w0 (Rw elem es sv n cs :: L) w)
    (k : ∀ sv' w', D w0 (Rw elem es sv' n cs :: Rw elem es sv n cs :: L) w' → K sv' w') : GClone P t ox elem es bytes zero sv K w :=
  gclone_src ht hz h1 hb h63 d (by obtain ⟨q, c, e, _⟩ := Rw.shape d.1; exact ⟨q, _, c, e⟩) (fun _ d' => src_rw d' h1) k
/-! ### Cells written anew -/
theorem clr_ok {b o c : Nat} {t : TypeId} (d : D w0 (cel b t cs :: L) w) (hm : 0 < m) (hz1 : ∀ u ∈ zero.toList, u.oneCell' = true) (hl : o + m * zero.size ≤ cs.length)
    (k : ∀ w', D w0 (cel b t (splice cs o (Builtin.zeroCells zero m).toList) :: L) w' → K (.tuple #[]) w') : Ex P (clrS zero (.slice (some ⟨b, o, none⟩) m c)) K w := by
  have h1 : ∀ u ∈ (Builtin.zeroCells zero m).toList, u.oneCell' = true := by
    intro u hu
    refine hz1 u ?_
    have : u ∈ Builtin.zeroCells zero m := by simpa using hu
    unfold Builtin.zeroCells at this
    rw [Array.mem_map] at this
    obtain ⟨i, hi, rfl⟩ := this
    have hi : i < m * zero.size := by simpa using hi
    have hp : 0 < zero.size := by
      rcases Nat.eq_zero_or_pos zero.size with h | h
      · rw [h] at hi; simp at hi
      · exact h
    have hlt := Nat.mod_lt i hp
    rw [getElem!_pos zero (i % zero.size) hlt]
    exact Array.mem_toList_iff.2 (Array.getElem_mem hlt)
  have g := d.get
  have hst : Storable w ⟨b, o, none⟩ (Builtin.zeroCells zero m).toList 0 := by
    intro j x hx
    have hj : j < m * zero.size := by
      have := (List.getElem?_eq_some_iff.1 hx).1
      rwa [zeros_len] at this
    refine ⟨h1 x (List.mem_of_getElem? hx), ?_, ?_⟩
    · rw [add_of, cell_of g]
      exact ⟨_, List.getElem?_eq_getElem (by omega)⟩
    · rw [add_of]; exact free_of g _
  refine ⟨.tuple #[], _, ?_, k _ ⟨?_, d.2.trans (Kp.stCells ⟨b, o, none⟩ (Builtin.zeroCells zero m).toList 0 w)⟩⟩
  · unfold clrS
    simp only [show m ≠ 0 by omega, if_false, Sem.run_bind, run_stCells _ _ _ hst, Result.andThen_ok, Sem.run_pure]
  · rw [hw_stCells _ cs 0 w g]
    exact d.1.set
theorem clr_0 {q : Option Addr} {c : Nat} (k : K (.tuple #[]) w) : Ex P (clrS zero (.slice q 0 c)) K w := by
  refine ⟨.tuple #[], w, ?_, k⟩
  cases q <;> rfl
theorem run_sl3 {t e : TypeId} {a : Option Addr} {len cap : Nat} {k1 k2 k3 : IntKind} {l h m : Int} (ht : P.underlying t = some (.slice e)) {i : TypeInfo} (hi : P.info? e = some i) (h0 : 0 ≤ l) (h1 : l ≤ h) (h2 : h ≤ m) (h3 : m ≤ cap)
    (k : K (.slice (if m.toNat = l.toNat then a else a.map (·.add (l.toNat * i.size))) (h.toNat - l.toNat) (m.toNat - l.toNat)) w) : Ex P (Instr.sliceAt t (.slice a len cap) (some (.int k1 l)) (some (.int k2 h)) (some (.int k3 m))) K w := by
  refine ⟨_, _, ?_, k⟩
  have e1 : l ≤ max h 0 := by omega
  have e2 : h ≤ max m 0 := by omega
  have e3 : 0 ≤ h := by omega
  have e4 : 0 ≤ m := by omega
  have hb : (Instr.sliceBounds true len cap (some (.int k1 l)) (some (.int k2 h)) (some (.int k3 m))).run P w = .ok (l.toNat, h.toNat, m.toNat) w := by
    simp [Instr.sliceBounds, Instr.sliceBound, asIntOf, h0, e1, e2, e3, e4, h3]
  simp only [Instr.sliceAt, Instr.slice, Sem.run_bind, run_underlying ht, Result.andThen_ok, hb, run_sizeOf hi, Sem.run_pure]
/-! ### A part taken out -/
def GDel (P : Program) (t : TypeId) (elem es bytes : Nat) (zero : Array Value) (a0 a1 a2 : Value) (KR : Value → WP) : WP :=
  LenS a0 fun v12 =>
  Ex P (Instr.sliceAt t a0 (some a1) (some a2) (some v12)) fun _ =>
  BinI .eql a1 a2 fun v16 =>
  Cnd v16 (KR a0)
  (LenS a0 fun v19 =>
  Drw <| QtC fun I =>
  QE I (fun KK => SlC es a0 none (some a1) fun v22 =>
  KK v22) fun v22_1 =>
  QE I (fun KK => SlC es a0 (some a2) none fun v25 =>
  KK v25) fun v25_1 =>
  AppC elem es bytes zero v22_1 v25_1 fun v26 =>
  LenS v26 fun v29 =>
  SlC es v26 (some v29) (some v19) fun v31 =>
  Ex P (clrS zero v31) fun _ =>
  KR v26)
theorem slc_ok {size len cap : Nat} {a : Option Addr} {lo hi : Option Value} {v : Value} (l h : Nat) (hh : match hi with | none => h = len | some v => ∃ k, v = .int k h ∧ h ≤ cap) (hl : match lo with | none => l = 0 | some v => ∃ k, v = .int k l ∧ l ≤ h)
    (hv : v = .slice (if cap = l then a else a.map (·.add (l * size))) (h - l) (cap - l)) (k : K v w) : SlC size (.slice a len cap) lo hi K w := by
  subst hv
  refine ⟨a, len, cap, l, h, rfl, ?_, ?_, k⟩
  · cases hi with
    | none => exact hh
    | some v => obtain ⟨k, e, h1⟩ := hh; exact ⟨k, h, e, by omega, by omega, by simp⟩
  · cases lo with
    | none => exact hl
    | some v => obtain ⟨k, e, h1⟩ := hl; exact ⟨k, l, e, by omega, by omega, by simp⟩
theorem gdel_ok {t : TypeId} {i j : Nat} (ht : P.underlying t = some (.slice elem)) (hinf : (P.info? elem).isSome = true) (hz : zero.size = es) (hz1 : ∀ u ∈ zero.toList, u.oneCell' = true) (h1 : ∀ u ∈ Z, u.oneCell' = true)
    (hij : i < j) (hjn : j ≤ n) (hX : X.length = i * es) (hY : Y.length = (j - i) * es) (h64 : n ≤ 4294967296)
    (d : D w0 (Rw elem es sv n (X ++ Y ++ Z) :: L) w) (k : ∀ sv' w', D w0 (Rw elem es sv' (i + (n - j)) (X ++ Z) :: L) w' → K sv' w') : GDel P t elem es bytes zero sv (.int .i64 i) (.int .i64 j) K w := by
  obtain ⟨inf, hi⟩ := Option.isSome_iff_exists.1 hinf
  obtain ⟨b, cap, junk, rfl, hcap, hl2, s⟩ := Rw.block d.1 (by omega)
  have hlen := Rw.len d.1
  have hZ : Z.length = (n - j) * es := by
    simp only [List.length_append, hX, hY] at hlen
    have e : n * es = i * es + (j - i) * es + (n - j) * es := by rw [← Nat.add_mul, ← Nat.add_mul]; congr 1; omega
    omega
  have d1 : D w0 (cel b elem (X ++ Y ++ Z ++ junk) :: L) w := ⟨s, d.2⟩
  unfold GDel
  rw [LenS_s]
  refine run_sl3 ht hi (by omega) (by omega) (by omega) (by omega) ?_
  rw [BinI_eql, Cnd_b]
  refine ⟨fun h => by simp at h; omega, fun _ => ?_⟩
  rw [LenS_s]
  have d1 := d1.drawn
  refine qt d1 ?_
  refine qe _ (fun w' _ => slc_ok 0 i ⟨_, rfl, by omega⟩ rfl rfl ⟨rfl, rfl⟩) ?_
  refine qe _ (fun w' _ => slc_ok j n rfl ⟨_, rfl, by omega⟩ rfl ⟨rfl, rfl⟩) ?_
  have e0 : (if cap = 0 then (some ⟨b, 0, none⟩ : Option Addr) else (some ⟨b, 0, none⟩ : Option Addr).map (·.add (0 * es))) = some ⟨b, 0, none⟩ := by
    split
    · rfl
    · simp [add_of]
  rw [e0, Nat.sub_zero, Nat.sub_zero]
  -- what stands behind the part
  have fin : ∀ (w' : World), D w0 (cel b elem (X ++ Z ++ (Y ++ Z ++ junk).drop Z.length) :: L) w' → (LenS (.slice (some ⟨b, 0, none⟩) (i + (n - j)) cap) fun v29 =>
      SlC es (.slice (some ⟨b, 0, none⟩) (i + (n - j)) cap) (some v29) (some (.int .i64 n)) fun v31 =>
      Ex P (clrS zero v31) fun _ =>
      K (.slice (some ⟨b, 0, none⟩) (i + (n - j)) cap)) w' := by
    intro w' d2
    rw [LenS_s]
    refine slc_ok (i + (n - j)) n ⟨_, rfl, hcap⟩ ⟨_, rfl, by omega⟩ rfl ?_
    rw [if_neg (by omega)]
    simp only [Option.map_some, add_of, Nat.zero_add]
    have hmul : (i + (n - j)) * es = X.length + Z.length := by rw [hX, hZ, Nat.add_mul]
    have hall : (X ++ Z ++ (Y ++ Z ++ junk).drop Z.length).length = cap * es := by
      have := hl2
      simp only [List.length_append, List.length_drop] at this ⊢
      omega
    refine clr_ok d2 (by omega) hz1 ?_ fun w3 d3 => ?_
    · rw [hall, hz, ← Nat.add_mul]; exact Nat.mul_le_mul_right _ (by omega)
    · have hzl : ((Builtin.zeroCells zero (n - (i + (n - j)))).toList).length = (j - i) * es := by rw [zeros_len, hz]; congr 1; omega
      have hsp : splice (X ++ Z ++ (Y ++ Z ++ junk).drop Z.length) ((i + (n - j)) * es) (Builtin.zeroCells zero (n - (i + (n - j)))).toList = (X ++ Z) ++ ((Builtin.zeroCells zero (n - (i + (n - j)))).toList ++ ((Y ++ Z ++ junk).drop Z.length).drop ((j - i) * es)) := by
        rw [splice_eq _ _ _ (by rw [hall, hzl, ← Nat.add_mul]; exact Nat.mul_le_mul_right _ (by omega)), hmul, ← List.length_append, List.take_left, hzl]
        rw [List.append_assoc, List.drop_append, List.drop_eq_nil_of_le (by omega), List.nil_append, Nat.add_sub_cancel_left]
      rw [hsp] at d3
      refine k _ _ ⟨Rw.mk d3.1 (by omega) ?_ ?_, d3.2⟩
      · rw [List.length_append, hX, hZ, ← Nat.add_mul]
      · rw [← hsp, splice_length]; exact hall
  rcases Nat.eq_or_lt_of_le hjn with e | hlt
  · subst e
    have hZ0 : Z = [] := List.length_eq_zero_iff.1 (by rw [hZ]; simp)
    subst hZ0
    refine ⟨_, _, _, 0, [], rfl, ?_, .inl ⟨rfl, by omega, ?_⟩⟩
    · rw [Nat.sub_self]
      split
      · exact .slice _ _ rfl (by simp) (fun j u hu => by simp at hu) (by simp)
      · exact .slice _ _ rfl (by simp) (fun j u hu => by simp at hu) (by simp)
    · have := fin _ (by simpa using d1)
      simpa using this
  · have g := d1.get
    rw [if_neg (by omega)]
    simp only [Option.map_some, add_of, Nat.zero_add]
    have hroom : i * es + Z.length ≤ (X ++ Y ++ Z ++ junk).length := by
      simp only [List.length_append]; omega
    refine ⟨_, _, _, n - j, Z, rfl, .slice _ _ rfl hZ (fun q u hu => ?_) h1, .inr (.inl ⟨b, 0, rfl, by omega, fun q hq => ?_, fun q hq => ?_, ?_⟩)⟩
    · rw [add_of, cell_of g]
      have hq := (List.getElem?_eq_some_iff.1 hu).1
      have hXY : (X ++ Y).length = j * es := by rw [List.length_append, hX, hY, ← Nat.add_mul]; congr 1; omega
      rw [List.append_assoc (X ++ Y), List.getElem?_append_right (by omega), hXY, Nat.add_sub_cancel_left, List.getElem?_append_left hq]
      exact hu
    · rw [cell_of g, List.getElem?_eq_getElem (by omega)]; rfl
    · exact free_of g _
    · refine fin _ ⟨?_, d1.2.trans (Kp.setCells _ _ _ _)⟩
      rw [hw_setCells Z _ _ _ g, Nat.zero_add]
      have e : splice (X ++ Y ++ Z ++ junk) (i * es) Z = X ++ Z ++ (Y ++ Z ++ junk).drop Z.length := by
        rw [splice_eq _ _ _ hroom, ← hX, List.append_assoc X, List.append_assoc X, List.take_left, List.drop_append]
        simp
      rw [e]
      exact d1.1.set
/-- The first elements of a row. -/
theorem slc_take {k : IntKind} {q : Nat} (hf : ∀ x, (f x).length = es) (hq : q ≤ S.length) (d : D w0 (Rw elem es sv S.length (S.flatMap f) :: L) w) (kk : ∀ sv', D w0 (Rw elem es sv' (S.take q).length ((S.take q).flatMap f) :: L) w → K sv' w) :
    SlC es sv none (some (.int k q)) K w := by
  have hlen : (S.take q).length = q := by simp; omega
  obtain ⟨⟨h1', h2, s, hr, l⟩, kp⟩ := d
  rcases hr with ⟨rfl, h0, hc⟩ | ⟨b, cap, junk, rfl, hle, hl, hl2, hb⟩
  · have hS : S = [] := List.length_eq_zero_iff.1 h0
    subst hS
    have : q = 0 := by simpa using hq
    subst this
    exact slc_ok 0 0 ⟨_, rfl, Nat.le_refl _⟩ rfl rfl (kk _ ⟨⟨h1', h2, s, .inl ⟨rfl, by simp, by simp⟩, l⟩, kp⟩)
  · refine slc_ok 0 q ⟨_, rfl, by omega⟩ rfl rfl ?_
    have e0 : (if cap = 0 then (some ⟨b, 0, none⟩ : Option Addr) else (some ⟨b, 0, none⟩ : Option Addr).map (·.add (0 * es))) = some ⟨b, 0, none⟩ := by
      split
      · rfl
      · simp [add_of]
    rw [e0, Nat.sub_zero, Nat.sub_zero]
    refine kk _ ⟨⟨h1', h2, s, .inr ⟨b, cap, (S.drop q).flatMap f ++ junk, by rw [hlen], by omega, flat_len hf, ?_, ?_⟩, l⟩, kp⟩
    · rw [← List.append_assoc, ← List.flatMap_append, List.take_append_drop]; exact hl2
    · rw [← List.append_assoc, ← List.flatMap_append, List.take_append_drop]; exact hb
/-- A row that is made. -/
theorem mks1 {z : Value} {kl kc : IntKind} (hb : bytes * n ≤ 281474976710656) (hn : n ≤ 4294967296) (d : D w0 L w) (k : ∀ sv w', D w0 (Rw elem 1 sv n (List.replicate n z) :: L) w' → K sv w') : MkSC elem 1 bytes #[z] (.int kl n) (.int kc n) K w := by
  refine ⟨kl, kc, n, n, rfl, rfl, by omega, by omega, (by have h := Int.ofNat_le.2 hb; rw [Int.natCast_mul] at h; exact h), by omega, k _ _ ⟨?_, d.2.trans (Kp.alloc _ _)⟩⟩
  have e : madeCells #[z] ((n : Int).toNat * 1) = (List.replicate n z ++ []).toArray := by
    apply Array.ext'
    rw [toList_madeCells_one]
    simp
  rw [hw_alloc, e]
  rw [Int.toNat_natCast]
  exact Rw.mk (junk := []) (Sat.new (hw_none w) d.1) (Nat.le_refl _) (by rw [List.length_replicate, Nat.mul_one]) (by rw [List.append_nil, List.length_replicate, Nat.mul_one])
end
end Go.Jac

namespace Go.Jac
open Go
/-- A row that was there when the walk began reads as a list. -/
def OldL {α : Type} (w0 : World) (es : Nat) (f : α → List Value) (v : Value) (l : List α) : Prop :=
  (v = .slice none 0 0 ∧ l = []) ∨ ∃ a c, v = .slice (some a) l.length c ∧ ∀ i (h : i < l.length), ∀ j x, (f l[i])[j]? = some x → w0.cell? ((a.add (i * es)).add j) = some x
section
variable {α : Type} {P : Program} {w0 w : World} {L : List HP} {K : Value → WP} {e es n : Nat} {v : Value} {f : α → List Value} {Q : α → Prop} {l : List α}
theorem OldSl.list (h : OldSl P w0 e es v n) (hr : ∀ vs, Rd P w0 e vs → ∃ x, vs = f x ∧ Q x) : ∃ l : List α, l.length = n ∧ (∀ x ∈ l, Q x) ∧ OldL w0 es f v l ∧ n ≤ maxLen := by
  obtain ⟨hn, ⟨rfl, rfl⟩ | ⟨a, c, rfl, hx⟩⟩ := h
  · exact ⟨[], rfl, by simp, .inl ⟨rfl, rfl⟩, hn⟩
  · have key : ∀ m, m ≤ n → ∃ l : List α, l.length = m ∧ (∀ x ∈ l, Q x) ∧ ∀ i (h : i < l.length), ∀ j x, (f l[i])[j]? = some x → w0.cell? ((a.add (i * es)).add j) = some x := by
      intro m
      induction m with
      | zero => intro _; exact ⟨[], rfl, by simp, fun i h => by simp at h⟩
      | succ m ih =>
        intro hm
        obtain ⟨l, h1, h2, h3⟩ := ih (by omega)
        obtain ⟨vs, _, h5, h6⟩ := hx m (by omega)
        obtain ⟨y, rfl, hq⟩ := hr vs h6
        refine ⟨l ++ [y], by simp [h1], fun x hx => ?_, fun i h j x hj => ?_⟩
        · rcases List.mem_append.1 hx with hx | hx
          · exact h2 x hx
          · rw [List.mem_singleton.1 hx]; exact hq
        · by_cases hi : i < l.length
          · rw [List.getElem_append_left hi] at hj
            exact h3 i hi j x hj
          · have e : i = m := by simp at h; omega
            subst e
            rw [List.getElem_append_right (by omega)] at hj
            simp only [h1, Nat.sub_self, List.getElem_cons_zero] at hj
            exact h5 j x hj
    obtain ⟨l, h1, h2, h3⟩ := key n (Nat.le_refl _)
    exact ⟨l, h1, h2, .inr ⟨a, c, by rw [h1], h3⟩, hn⟩
theorem OldL.shape (h : OldL w0 es f v l) : ∃ q c, v = .slice q l.length c := by
  rcases h with ⟨rfl, rfl⟩ | ⟨a, c, rfl, _⟩
  · exact ⟨none, 0, rfl⟩
  · exact ⟨_, _, rfl⟩
theorem OldL.len (h : OldL w0 es f v l) (k : K (.int .i64 l.length) w) : LenS v K w := by
  obtain ⟨q, c, rfl⟩ := h.shape
  exact k
theorem OldL.ia {i : Int} (h : OldL w0 es f v l) (h0 : 0 ≤ i) (h1 : i < l.length) (k : ∀ a, (∀ j x, (f (l[i.toNat]'(by omega)))[j]? = some x → w0.cell? (a.add j) = some x) → K (.pointer (some a)) w) : IA es v (.int .i64 i) K w := by
  rcases h with ⟨_, rfl⟩ | ⟨a, c, rfl, hx⟩
  · simp at h1; omega
  · exact old_ia h0 h1 (k _ (hx i.toNat (by omega)))
theorem OldL.src (h : OldL w0 es f v l) (hf : ∀ x, (f x).length = es) (hc : ∀ u ∈ l.flatMap f, u.oneCell' = true) (d : D w0 L w) (hm : Old w0 ∈ L) : SrcV es v l.length (l.flatMap f) w := by
  rcases h with ⟨rfl, rfl⟩ | ⟨a, c, rfl, hx⟩
  · exact .nil 0 rfl rfl rfl
  · refine .slice a c rfl (flat_len hf) (fun j u hu => ?_) hc
    have hj := (List.getElem?_eq_some_iff.1 hu).1
    rw [flat_len hf] at hj
    have hes : 0 < es := by
      rcases Nat.eq_zero_or_pos es with h | h
      · rw [h] at hj; simp at hj
      · exact h
    have hi : j / es < l.length := Nat.div_lt_of_lt_mul (by rw [Nat.mul_comm]; exact hj)
    obtain ⟨pre, post, e1, e2, _⟩ := flat_at hf hi
    have hjm : j = j / es * es + j % es := by rw [Nat.mul_comm]; exact (Nat.div_add_mod j es).symm
    have hu' : (f l[j / es])[j % es]? = some u := by
      have hlt : j % es < (f l[j / es]).length := by rw [hf]; exact Nat.mod_lt _ hes
      have e3 : j - pre.length = j % es := by rw [e2]; omega
      rw [e1, List.append_assoc, List.getElem?_append_right (by rw [e2]; omega), e3, List.getElem?_append_left hlt] at hu
      exact hu
    have := hx (j / es) hi (j % es) u hu'
    have e4 : (a.add (j / es * es)).add (j % es) = a.add j := by
      rw [Addr.add_add, ← hjm]
    rw [e4] at this
    exact d.oldc hm this
theorem _root_.Go.Addr.add_zero (a : Addr) : a.add 0 = a := rfl
theorem FA_a (p : Addr) (n : Nat) : FA (.pointer (some p)) n K w = K (.pointer (some (p.add n))) w := propext Iff.rfl
/-- A field of an element. -/
theorem OldL.fld {i : Int} {n : Nat} {x : Value} (h : OldL w0 es f v l) (h0 : 0 ≤ i) (h1 : i < l.length) (d : D w0 L w) (hm : Old w0 ∈ L) (hx : (f (l[i.toNat]'(by omega)))[n]? = some x) (k : K x w) :
    IA es v (.int .i64 i) (fun p => FA p n fun q => Ld1 q fun u => K u) w := by
  refine h.ia h0 h1 fun a ha => ?_
  rw [FA_a]
  exact old_ld1 d hm (ha n x hx) k
end
end Go.Jac

namespace Go.Jac
open Go
def kI (v : Value) : Int := match v with | .int _ n => n | _ => 0
structure MpOk (es : List MapEntry) (clock : Nat) (g : Int → Option Value) (n : Nat) : Prop where
  key : ∀ e ∈ es, e.key = .int .i64 (kI e.key)
  nd : (es.map fun e => kI e.key).Nodup
  born : ∀ e ∈ es, e.born < clock
  bnd : (es.map (·.born)).Nodup
  get : ∀ k, g k = (es.find? fun e => decide (kI e.key = k)).map (·.val)
  len : es.length = n
/-- A map: what it holds, and how many. -/
def Mp (b : Nat) (g : Int → Option Value) (n : Nat) : HP := fun h => ∃ es clock, h b = some (.map es clock) ∧ MpOk es.toList clock g n
def fnd (k : Int) : List MapEntry → Nat → Option (Nat × Value)
  | [], _ => none
  | e :: r, i => if kI e.key = k then some (i, e.val) else fnd k r (i + 1)
theorem findNow_eq {k : Int} : ∀ {es : List MapEntry} {i : Nat}, (∀ e ∈ es, e.key = .int .i64 (kI e.key)) → Instr.findNow (.int .i64) (.int .i64 k) es i = some (fnd k es i)
  | [], _, _ => rfl
  | e :: r, i, h => by
    obtain ⟨n, hn⟩ : ∃ n, e.key = .int .i64 n := ⟨_, h e (by simp)⟩
    have hkn : kI e.key = n := by rw [hn]; rfl
    have hs : Instr.sameNow (.int .i64) (.int .i64 k) e.key = some (k == n) := by rw [hn]; simp [Instr.sameNow]
    unfold Instr.findNow fnd
    rw [hs, hkn]
    by_cases hk : n = k
    · simp [hk]
    · have : (k == n) = false := by simpa using fun h : k = n => hk h.symm
      rw [this, if_neg hk]
      exact findNow_eq fun e' h' => h e' (by simp [h'])
theorem fnd_none {k : Int} : ∀ {es : List MapEntry} {i : Nat}, fnd k es i = none → ∀ e ∈ es, kI e.key ≠ k
  | [], _, _, e, he => by cases he
  | x :: r, i, h, e, he => by
    unfold fnd at h
    split at h
    · cases h
    · rename_i hx
      rcases List.mem_cons.1 he with rfl | he
      · exact hx
      · exact fnd_none h e he
theorem fnd_some {k : Int} {j : Nat} {v : Value} : ∀ {es : List MapEntry} {i : Nat}, fnd k es i = some (j, v) → ∃ q, j = i + q ∧ ∃ e, es[q]? = some e ∧ kI e.key = k ∧ e.val = v
  | [], _, h => by cases h
  | x :: r, i, h => by
    unfold fnd at h
    split at h
    · rename_i hx
      cases h
      exact ⟨0, rfl, x, rfl, hx, rfl⟩
    · obtain ⟨q, h1, e, h2, h3⟩ := fnd_some h
      exact ⟨q + 1, by omega, e, by simpa using h2, h3⟩
theorem fnd_find {k : Int} : ∀ {es : List MapEntry} {i : Nat}, (fnd k es i).map (·.2) = (es.find? fun e => decide (kI e.key = k)).map (·.val)
  | [], _ => rfl
  | x :: r, i => by
    unfold fnd
    rw [List.find?_cons]
    by_cases hx : kI x.key = k
    · simp [hx]
    · simp only [hx, if_false, decide_false]; exact fnd_find
section
variable {P : Program} {w0 w : World} {L : List HP} {K : Value → WP} {b n : Nat} {g : Int → Option Value} {t kt et : TypeId} {k : Int} {v : Value}
theorem Mp.at_ (d : D w0 (Mp b g n :: L) w) : ∃ es clock, w.heap[b]? = some (.map es clock) ∧ MpOk es.toList clock g n := by
  obtain ⟨⟨h1, h2, s, ⟨es, clock, hb, ok⟩, l⟩, _⟩ := d
  exact ⟨es, clock, s.l hb, ok⟩
theorem Mp.set {g' : Int → Option Value} {n' : Nat} {es : Array MapEntry} {clock : Nat} (d : D w0 (Mp b g n :: L) w) (ok : MpOk es.toList clock g' n') : D w0 (Mp b g' n' :: L) (World.put' w b (.map es clock)) := by
  obtain ⟨es0, clock0, hb, ok0⟩ := Mp.at_ d
  have d1 : D w0 (pts b (.map es0 clock0) :: L) w := by
    obtain ⟨⟨h1, h2, s, ⟨es1, c1, hb1, ok1⟩, l⟩, kp⟩ := d
    have : hw w b = some (.map es1 c1) := s.l hb1
    have e : w.heap[b]? = some (.map es1 c1) := this
    rw [hb] at e
    obtain ⟨rfl, rfl⟩ : es0 = es1 ∧ clock0 = c1 := by injection e with e; injection e with e1 e2; exact ⟨e1, e2⟩
    exact ⟨⟨h1, h2, s, hb1, l⟩, kp⟩
  exact (D.put (o' := .map es clock) d1).hd fun _ h => ⟨es, clock, h, ok⟩
theorem run_checkKey {e : Bool} {w : World} (hk : P.underlying kt = some (.int .i64)) (k : Int) : (Instr.checkKey e 10000 kt (.int .i64 k)).run P w = .ok () w := by
  unfold Instr.checkKey
  simp only [Sem.run_bind, run_underlying hk, Result.andThen_ok, Sem.run_pure]
theorem run_findKey {es : List MapEntry} {w : World} (hk : P.underlying kt = some (.int .i64)) (h : ∀ e ∈ es, e.key = .int .i64 (kI e.key)) : (Instr.findKey kt (.int .i64 k) es).run P w = .ok (fnd k es 0) w := by
  unfold Instr.findKey
  simp only [Sem.run_bind, run_underlying hk, Result.andThen_ok, findNow_eq h, Sem.run_pure]
theorem run_getMap {es : Array MapEntry} {clock : Nat} (hb : w.heap[b]? = some (.map es clock)) : (getObj b).run P w = .ok (.map es clock) w := by
  simp [getObj, Sem.run, hb]
theorem run_setMap {es : Array MapEntry} {clock : Nat} {o : Obj} (hb : w.heap[b]? = some (.map es clock)) : (setObj b o).run P w = .ok () (World.put' w b o) := by
  simp [setObj, Sem.run, hb, World.put']
theorem lk_run (ht : P.underlying t = some (.map kt et)) (hk : P.underlying kt = some (.int .i64)) {z : Value} (hz : ((P.info? et).bind (·.zero)) = some z) (d : D w0 (Mp b g n :: L) w) (ok : Bool) :
    (Instr.lookup t (.map (some b)) (.int .i64 k) ok).run P w = .ok (if ok then .tuple #[(g k).getD z, .bool (g k).isSome] else (g k).getD z) w := by
  obtain ⟨es, clock, hb, hm⟩ := Mp.at_ d
  obtain ⟨i, hi, hzi⟩ := Option.bind_eq_some_iff.1 hz
  unfold Instr.lookup
  simp only [Sem.run_bind, run_underlying ht, Result.andThen_ok, run_getMap hb, Sem.run_pure, run_checkKey hk, run_findKey hk hm.key]
  have hf := fnd_find (k := k) (es := es.toList) (i := 0)
  rw [← hm.get k] at hf
  cases h : fnd k es.toList 0 with
  | none =>
    rw [h] at hf
    rw [← hf]
    simp only [Sem.run_bind, run_zeroValue hi hzi, Result.andThen_ok, Sem.run_pure]
    cases ok <;> rfl
  | some jv =>
    obtain ⟨j, v⟩ := jv
    rw [h] at hf
    rw [← hf]
    simp only [Sem.run_pure, Result.andThen_ok]
    cases ok <;> rfl
theorem lk_ok (ht : P.underlying t = some (.map kt et)) (hk : P.underlying kt = some (.int .i64)) {z : Value} (hz : ((P.info? et).bind (·.zero)) = some z) (d : D w0 (Mp b g n :: L) w) (kk : K (.tuple #[(g k).getD z, .bool (g k).isSome]) w) :
    Ex P (Instr.lookup t (.map (some b)) (.int .i64 k) true) K w := ⟨_, _, lk_run ht hk hz d true, kk⟩
theorem lk1_ok (ht : P.underlying t = some (.map kt et)) (hk : P.underlying kt = some (.int .i64)) {z : Value} (hz : ((P.info? et).bind (·.zero)) = some z) (d : D w0 (Mp b g n :: L) w) (kk : K ((g k).getD z) w) :
    Ex P (Instr.lookup t (.map (some b)) (.int .i64 k) false) K w := ⟨_, _, lk_run ht hk hz d false, kk⟩
theorem mlen_ok {ty : TypeId} (ht : P.underlying t = some (.map kt et)) (d : D w0 (Mp b g n :: L) w) (kk : K (.int .i64 n) w) : Ex P (Builtin.len_ #[t] ty #[.map (some b)]) K w := by
  obtain ⟨es, clock, hb, hm⟩ := Mp.at_ d
  refine ⟨_, _, ?_, kk⟩
  unfold Builtin.len_
  simp [run_underlying ht, run_getMap hb, goInt, ← hm.len]
theorem mmk_ok (d : D w0 L w) (kk : ∀ b w', D w0 (Mp b (fun _ => none) 0 :: L) w' → K (.map (some b)) w') : Ex P (Instr.makeMap t none) K w := by
  refine ⟨.map (some w.heap.size), w.alloc (.map #[] 0), ?_, kk _ _ ⟨?_, d.2.trans (Kp.alloc _ _)⟩⟩
  · unfold Instr.makeMap
    simp only [Sem.run_bind, Sem.run_pure, Result.andThen_ok, run_newObj]
    rfl
  · rw [hw_alloc]
    exact (Sat.new (hw_none w) d.1).hd fun h hb => ⟨#[], 0, hb, by simp, by simp, by simp, by simp, by simp, rfl⟩
def upd {α : Type} (g : Int → Option α) (k : Int) (v : α) : Int → Option α := fun i => if i = k then some v else g i
def del {α : Type} (g : Int → Option α) (k : Int) : Int → Option α := fun i => if i = k then none else g i
theorem mo_get {es : List MapEntry} {clock : Nat} (h : MpOk es clock g n) : (g k).isSome = true ↔ ∃ e ∈ es, kI e.key = k := by
  rw [h.get k, Option.isSome_map, List.find?_isSome]
  simp
theorem find_uniq {es : List MapEntry} (hn : (es.map fun e => kI e.key).Nodup) {e : MapEntry} (he : e ∈ es) : es.find? (fun x => decide (kI x.key = kI e.key)) = some e := by
  induction es with
  | nil => cases he
  | cons x r ih =>
    rw [List.find?_cons]
    rw [List.map_cons, List.nodup_cons] at hn
    rcases List.mem_cons.1 he with rfl | he
    · simp
    · have : kI x.key ≠ kI e.key := fun h => hn.1 (List.mem_map.2 ⟨e, he, h.symm⟩)
      simp only [this, decide_false]
      exact ih hn.2 he
/-- A value written anew. -/
theorem mo_mod {es : List MapEntry} {clock q : Nat} {e : MapEntry} (h : MpOk es clock g n) (hq : es[q]? = some e) (v : Value) : MpOk (es.modify q fun x => { x with key := .int .i64 (kI e.key), val := v }) clock (upd g (kI e.key) v) n := by
  have hlt := (List.getElem?_eq_some_iff.1 hq).1
  have heq := (List.getElem?_eq_some_iff.1 hq).2
  have hke := h.key e (List.mem_of_getElem? hq)
  have hm : es.modify q (fun x => { x with key := .int .i64 (kI e.key), val := v }) = es.set q { e with val := v } := by
    apply List.ext_getElem
    · simp
    · intro i h1 h2
      rw [List.getElem_modify, List.getElem_set]
      split
      · rename_i hi; subst hi; rw [heq, ← hke]
      · rfl
  have hkeys : (es.set q { e with val := v }).map (fun x => kI x.key) = es.map fun x => kI x.key := by
    apply List.ext_getElem
    · simp
    · intro i h1 h2
      simp only [List.getElem_map, List.getElem_set]
      split
      · rename_i hi; subst hi; rw [heq]
      · rfl
  have hborn : (es.set q { e with val := v }).map (·.born) = es.map (·.born) := by
    apply List.ext_getElem
    · simp
    · intro i h1 h2
      simp only [List.getElem_map, List.getElem_set]
      split
      · rename_i hi; subst hi; rw [heq]
      · rfl
  rw [hm]
  have hmem : ∀ x ∈ es.set q { e with val := v }, x ∈ es ∨ x = { e with val := v } := fun x hx => by
    obtain ⟨i, hi, rfl⟩ := List.getElem_of_mem hx
    rw [List.getElem_set]
    split
    · exact .inr rfl
    · exact .inl (List.getElem_mem _)
  refine ⟨fun x hx => ?_, by rw [hkeys]; exact h.nd, fun x hx => ?_, by rw [hborn]; exact h.bnd, fun k => ?_, by simpa using h.len⟩
  · rcases hmem x hx with h1 | rfl
    · exact h.key x h1
    · exact hke
  · rcases hmem x hx with h1 | rfl
    · exact h.born x h1
    · exact h.born e (List.mem_of_getElem? hq)
  · unfold upd
    have hnd' : ((es.set q { e with val := v }).map fun e => kI e.key).Nodup := by rw [hkeys]; exact h.nd
    by_cases hk : k = kI e.key
    · subst hk
      rw [if_pos rfl]
      have he' : ({ e with val := v } : MapEntry) ∈ es.set q { e with val := v } := List.mem_set hlt _
      have := find_uniq hnd' he'
      simp only at this
      rw [this]; rfl
    · rw [if_neg hk, h.get k]
      have key : ∀ (es : List MapEntry) (q : Nat), es[q]? = some e → (es.set q { e with val := v }).find? (fun x => decide (kI x.key = k)) = es.find? fun x => decide (kI x.key = k) := by
        intro es
        induction es with
        | nil => intro q hq; simp at hq
        | cons x r ih =>
          intro q hq
          cases q with
          | zero =>
            simp only [List.getElem?_cons_zero, Option.some.injEq] at hq
            subst hq
            have : decide (kI x.key = k) = false := by simpa using fun h => hk h.symm
            rw [List.set_cons_zero, List.find?_cons, List.find?_cons, this]
          | succ q =>
            rw [List.set_cons_succ, List.find?_cons, List.find?_cons, ih q (by simpa using hq)]
      rw [key es q hq]
theorem mo_push {es : List MapEntry} {clock : Nat} (h : MpOk es clock g n) (hn : g k = none) (v : Value) : MpOk (es ++ [{ key := .int .i64 k, val := v, born := clock }]) (clock + 1) (upd g k v) (n + 1) := by
  have hno : ∀ e ∈ es, kI e.key ≠ k := fun e he hk => by
    have := (mo_get h (k := k)).2 ⟨e, he, hk⟩
    rw [hn] at this; cases this
  refine ⟨fun e he => ?_, ?_, fun e he => ?_, ?_, fun i => ?_, by simp [h.len]⟩
  · rcases List.mem_append.1 he with he | he
    · exact h.key e he
    · rw [List.mem_singleton.1 he]; rfl
  · rw [List.map_append, List.nodup_append]
    refine ⟨h.nd, by simp, ?_⟩
    intro a ha c hc e
    obtain ⟨x, hx, rfl⟩ := List.mem_map.1 ha
    simp [kI] at hc
    exact hno x hx (by rw [← hc]; exact e)
  · rcases List.mem_append.1 he with he | he
    · have := h.born e he; omega
    · rw [List.mem_singleton.1 he]; simp
  · rw [List.map_append, List.nodup_append]
    refine ⟨h.bnd, by simp, ?_⟩
    intro a ha c hc e
    obtain ⟨x, hx, rfl⟩ := List.mem_map.1 ha
    simp at hc
    have := h.born x hx
    omega
  · unfold upd
    rw [List.find?_append]
    by_cases hi : i = k
    · subst hi
      rw [if_pos rfl]
      have : es.find? (fun e => decide (kI e.key = i)) = none := by
        rw [List.find?_eq_none]
        intro e he; simpa using hno e he
      rw [this]
      simp [kI]
    · rw [if_neg hi, h.get i]
      have hk' : decide (kI (.int .i64 k) = i) = false := decide_eq_false fun h : k = i => hi h.symm
      have : ([{ key := .int .i64 k, val := v, born := clock }] : List MapEntry).find? (fun e => decide (kI e.key = i)) = none := by
        rw [List.find?_cons, hk']; rfl
      rw [this, Option.or_none]
theorem mup_run (ht : P.underlying t = some (.map kt et)) (hk : P.underlying kt = some (.int .i64)) (d : D w0 (Mp b g n :: L) w) :
    ∃ w', (Instr.mapUpdate t (.map (some b)) (.int .i64 k) v).run P w = .ok () w' ∧ D w0 (Mp b (upd g k v) (if (g k).isSome then n else n + 1) :: L) w' := by
  obtain ⟨es, clock, hb, hm⟩ := Mp.at_ d
  unfold Instr.mapUpdate
  simp only [Sem.run_bind, run_underlying ht, Result.andThen_ok, run_getMap hb, run_checkKey hk, run_findKey hk hm.key]
  have hf := fnd_find (k := k) (es := es.toList) (i := 0)
  rw [← hm.get k] at hf
  cases h : fnd k es.toList 0 with
  | none =>
    rw [h] at hf
    have hg : g k = none := by rw [← hf]; rfl
    rw [hg]
    refine ⟨_, run_setMap hb, ?_⟩
    have := mo_push hm hg v
    exact Mp.set d (by simpa using this)
  | some jv =>
    obtain ⟨j, u⟩ := jv
    rw [h] at hf
    have hg : (g k).isSome = true := by rw [← hf]; rfl
    rw [hg, if_pos rfl]
    obtain ⟨q, hq, e, he, hke, hv⟩ := fnd_some h
    have hq' : j = q := by omega
    subst hq'
    have hkey := hm.key e (List.mem_of_getElem? he)
    have he' : es[j]? = some e := by simpa using he
    have hst : (Instr.keyThatStays (((es[j]?).map (·.key)).getD (.int .i64 k)) (.int .i64 k)).run P w = .ok (.int .i64 k) w := by
      rw [he']
      simp only [Option.map_some, Option.getD_some]
      rw [hkey, hke]
      unfold Instr.keyThatStays
      simp [Instr.sameBits]
    simp only [Sem.run_bind, hst, Result.andThen_ok]
    refine ⟨_, run_setMap hb, ?_⟩
    have := mo_mod hm he v
    rw [hke] at this
    exact Mp.set d (by simpa using this)
theorem mup_ok (ht : P.underlying t = some (.map kt et)) (hk : P.underlying kt = some (.int .i64)) (d : D w0 (Mp b g n :: L) w)
    (kk : ∀ w', D w0 (Mp b (upd g k v) (if (g k).isSome then n else n + 1) :: L) w' → K undef w') : Ex P (do Instr.mapUpdate t (.map (some b)) (.int .i64 k) v; pure undef) K w := by
  obtain ⟨w', h, d'⟩ := mup_run (v := v) ht hk d
  exact ⟨_, _, by rw [Sem.run_bind, h]; rfl, kk _ d'⟩
theorem mo_del {es : List MapEntry} {clock q : Nat} {e : MapEntry} (h : MpOk es clock g n) (hq : es[q]? = some e) : MpOk (es.eraseIdx q) clock (del g (kI e.key)) (n - 1) := by
  have hlt := (List.getElem?_eq_some_iff.1 hq).1
  have heq := (List.getElem?_eq_some_iff.1 hq).2
  have hsub : (es.eraseIdx q).Sublist es := List.eraseIdx_sublist es q
  refine ⟨fun x hx => h.key x (hsub.mem hx), (hsub.map _).nodup h.nd, fun x hx => h.born x (hsub.mem hx), (hsub.map _).nodup h.bnd, fun k => ?_, by rw [List.length_eraseIdx_of_lt hlt, h.len]⟩
  unfold del
  by_cases hk : k = kI e.key
  · rw [if_pos hk]
    have : (es.eraseIdx q).find? (fun x => decide (kI x.key = k)) = none := by
      rw [List.find?_eq_none]
      intro x hx
      obtain ⟨j, hj, hjq, rfl⟩ := List.mem_eraseIdx_iff_getElem.1 hx
      have hp := List.pairwise_iff_getElem.1 h.nd
      have hne : kI es[j].key ≠ kI es[q].key := by
        rcases Nat.lt_or_gt_of_ne (show j ≠ q by assumption) with h1 | h1
        · have := hp j q (by simpa using hj) (by simpa using hlt) h1; simpa using this
        · have := hp q j (by simpa using hlt) (by simpa using hj) h1
          intro hc
          exact (by simpa using this : kI es[q].key ≠ kI es[j].key) hc.symm
      rw [hk, ← heq]
      simpa using hne
    rw [this]; rfl
  · rw [if_neg hk, h.get k]
    have key : ∀ (es : List MapEntry) (q : Nat), es[q]? = some e → (es.eraseIdx q).find? (fun x => decide (kI x.key = k)) = es.find? fun x => decide (kI x.key = k) := by
      intro es
      induction es with
      | nil => intro q hq; simp at hq
      | cons x r ih =>
        intro q hq
        cases q with
        | zero =>
          simp only [List.getElem?_cons_zero, Option.some.injEq] at hq
          subst hq
          have : decide (kI x.key = k) = false := by simpa using fun h => hk h.symm
          rw [List.eraseIdx_cons_zero, List.find?_cons, this]
        | succ q =>
          rw [List.eraseIdx_cons_succ, List.find?_cons, List.find?_cons, ih q (by simpa using hq)]
    rw [key es q hq]
theorem mdel_ok {ty : TypeId} {t2 : TypeId} (ht : P.underlying t = some (.map kt et)) (hk : P.underlying kt = some (.int .i64)) (d : D w0 (Mp b g n :: L) w)
    (kk : ∀ w', D w0 (Mp b (del g k) (if (g k).isSome then n - 1 else n) :: L) w' → K (.tuple #[]) w') : Ex P (Builtin.delete_ #[t, t2] ty #[.map (some b), .int .i64 k]) K w := by
  obtain ⟨es, clock, hb, hm⟩ := Mp.at_ d
  have hf := fnd_find (k := k) (es := es.toList) (i := 0)
  rw [← hm.get k] at hf
  cases h : fnd k es.toList 0 with
  | none =>
    rw [h] at hf
    have hg : g k = none := by rw [← hf]; rfl
    refine ⟨.tuple #[], _, ?_, kk _ (Mp.set d (es := es) (clock := clock) ?_)⟩
    · unfold Builtin.delete_
      simp only [List.getElem?_toArray, List.getElem?_cons_zero, List.getElem?_cons_succ, Sem.run_bind, run_underlying ht, Result.andThen_ok, run_getMap hb, run_checkKey hk, run_findKey hk hm.key, h, run_setMap hb, Sem.run_pure]
    · rw [hg]
      have : del g k = g := by
        funext i
        unfold del
        split
        · rename_i e; rw [e, hg]
        · rfl
      rw [this]; exact hm
  | some jv =>
    obtain ⟨j, u⟩ := jv
    rw [h] at hf
    have hg : (g k).isSome = true := by rw [← hf]; rfl
    obtain ⟨q, hq, e, he, hke, hv⟩ := fnd_some h
    have hq' : j = q := by omega
    subst hq'
    refine ⟨.tuple #[], _, ?_, kk _ (Mp.set d (es := es.eraseIdxIfInBounds j) (clock := clock) ?_)⟩
    · unfold Builtin.delete_
      simp only [List.getElem?_toArray, List.getElem?_cons_zero, List.getElem?_cons_succ, Sem.run_bind, run_underlying ht, Result.andThen_ok, run_getMap hb, run_checkKey hk, run_findKey hk hm.key, h, run_setMap hb, Sem.run_pure]
    · rw [hg, if_pos rfl]
      have := mo_del hm he
      rw [hke] at this
      simpa using this
theorem In.mp (i : In (Mp b g n) L) (d : D w0 L w) : ∃ M, D w0 (Mp b g n :: M) w := by
  obtain ⟨M, h⟩ := i.front
  exact ⟨M, h _ d.1, d.2⟩
theorem qe_lk {B : Value → WP} (ht : P.underlying t = some (.map kt et)) (hk : P.underlying kt = some (.int .i64)) {z : Value} (hz : ((P.info? et).bind (·.zero)) = some z) (i : In (Mp b g n) L) (kk : B (.tuple #[(g k).getD z, .bool (g k).isSome]) w) :
    QE (D w0 L) (fun KK => Ex P (Instr.lookup t (.map (some b)) (.int .i64 k) true) fun v => KK v) B w :=
  qe _ (fun w' d => by obtain ⟨M, d⟩ := i.mp d; exact lk_ok ht hk hz d ⟨rfl, rfl⟩) kk
theorem qe_lk1 {B : Value → WP} (ht : P.underlying t = some (.map kt et)) (hk : P.underlying kt = some (.int .i64)) {z : Value} (hz : ((P.info? et).bind (·.zero)) = some z) (i : In (Mp b g n) L) (kk : B ((g k).getD z) w) :
    QE (D w0 L) (fun KK => Ex P (Instr.lookup t (.map (some b)) (.int .i64 k) false) fun v => KK v) B w :=
  qe _ (fun w' d => by obtain ⟨M, d⟩ := i.mp d; exact lk1_ok ht hk hz d ⟨rfl, rfl⟩) kk
theorem lkm_ok (ht : P.underlying t = some (.map kt et)) (hk : P.underlying kt = some (.int .i64)) {z : Value} (hz : ((P.info? et).bind (·.zero)) = some z) (d : D w0 L w) (i : In (Mp b g n) L) (kk : K (.tuple #[(g k).getD z, .bool (g k).isSome]) w) :
    Ex P (Instr.lookup t (.map (some b)) (.int .i64 k) true) K w := by obtain ⟨M, d⟩ := i.mp d; exact lk_ok ht hk hz d kk
theorem lkm1_ok (ht : P.underlying t = some (.map kt et)) (hk : P.underlying kt = some (.int .i64)) {z : Value} (hz : ((P.info? et).bind (·.zero)) = some z) (d : D w0 L w) (i : In (Mp b g n) L) (kk : K ((g k).getD z) w) :
    Ex P (Instr.lookup t (.map (some b)) (.int .i64 k) false) K w := by obtain ⟨M, d⟩ := i.mp d; exact lk1_ok ht hk hz d kk
theorem mlenm_ok {ty : TypeId} (ht : P.underlying t = some (.map kt et)) (d : D w0 L w) (i : In (Mp b g n) L) (kk : K (.int .i64 n) w) : Ex P (Builtin.len_ #[t] ty #[.map (some b)]) K w := by obtain ⟨M, d⟩ := i.mp d; exact mlen_ok ht d kk
theorem mdelm_ok {L' : List HP} {ty : TypeId} {t2 : TypeId} (ht : P.underlying t = some (.map kt et)) (hk : P.underlying kt = some (.int .i64)) (d : D w0 L w) (r : Rp (Mp b g n) (Mp b (del g k) (if (g k).isSome then n - 1 else n)) L L')
    (kk : ∀ w', D w0 L' w' → K (.tuple #[]) w') : Ex P (Builtin.delete_ #[t, t2] ty #[.map (some b), .int .i64 k]) K w := by
  obtain ⟨M, f1, f2⟩ := r.front
  exact mdel_ok ht hk (L := M) ⟨f1 _ d.1, d.2⟩ fun w' d => kk w' ⟨f2 _ d.1, d.2⟩
theorem mupm_ok {L' : List HP} (ht : P.underlying t = some (.map kt et)) (hk : P.underlying kt = some (.int .i64)) (d : D w0 L w) (r : Rp (Mp b g n) (Mp b (upd g k v) (if (g k).isSome then n else n + 1)) L L')
    (kk : ∀ w', D w0 L' w' → K undef w') : Ex P (do Instr.mapUpdate t (.map (some b)) (.int .i64 k) v; pure undef) K w := by
  obtain ⟨M, f1, f2⟩ := r.front
  exact mup_ok ht hk (L := M) ⟨f1 _ d.1, d.2⟩ fun w' d => kk w' ⟨f2 _ d.1, d.2⟩
end
end Go.Jac

set_option maxRecDepth 100000
namespace Go.Jac
open Go
section
variable {P : Program} {w0 w : World} {L : List HP} {K : Value → WP} {elem es : Nat} {sv y : Value} {zero : Array Value}
variable {α : Type} {f : α → List Value} {p : α → Bool} {S : List α}
def GDelF (P : Program) (n : Nat) (elem es : Nat) (zero : Array Value) (a0 a1 : Value) (KR : Value → WP) : WP :=
  FnV P (.func (.func n) #[] #[]) #[a0, a1] fun v10 =>
  BinI .eql v10 (.int .i64 (-1)) fun v12 =>
  Cnd v12 (KR a0)
  (BinI .add v10 (.int .i64 1) fun v15 =>
  LoopC [v10, v15] fun vK vs => AllE <|
  UN vs fun v5 vs =>
  UN vs fun v6 _ =>
  LenS a0 fun v18 =>
  BinI .lss v6 v18 fun v19 =>
  Cnd v19 (IA es a0 v6 fun v24 =>
  LdN es v24 fun v25 =>
  New elem zero fun v7 =>
  St es v7 v25 fun _ =>
  LdN es v7 fun v27 =>
  FnV P a1 #[v27] fun v28 =>
  Un .not v28 fun v29 =>
  Cnd v29 (LdN es v7 fun v32 =>
  IA es a0 v5 fun v33 =>
  St es v33 v32 fun _ =>
  BinI .add v5 (.int .i64 1) fun v35 =>
  BinI .add v6 (.int .i64 1) fun v21 =>
  vK [v35, v21])
  (BinI .add v6 (.int .i64 1) fun v21_1 =>
  vK [v5, v21_1]))
  (SlC es a0 (some v5) none fun v38 =>
  Ex P (clrS zero v38) fun _ =>
  SlC es a0 none (some v5) fun v41 =>
  KR v41))
theorem fidx_none (h : fidx p S = -1) : S.filter (fun x => !p x) = S := by
  unfold fidx at h
  split at h
  · omega
  · rename_i hf
    refine List.filter_eq_self.2 fun x hx => ?_
    have h1 : S.findIdx p = S.length := Nat.le_antisymm List.findIdx_le_length (by omega)
    have := (List.findIdx_eq_length.1 h1) x hx
    simp [this]
theorem filter_take_none {i : Nat} (h : ∀ j (hj : j < S.length), j < i → p S[j] = false) : (S.take i).filter (fun x => !p x) = S.take i := by
  refine List.filter_eq_self.2 fun x hx => ?_
  obtain ⟨j, hj, rfl⟩ := List.getElem_of_mem hx
  rw [List.length_take] at hj
  rw [List.getElem_take, h j (by omega) (by omega)]; rfl
theorem gdelf_ok {n : Nat} (hf : ∀ x, (f x).length = es) (h1 : ∀ x ∈ S, ∀ u ∈ f x, u.oneCell' = true) (hz : zero.size = es) (hz1 : ∀ u ∈ zero.toList, u.oneCell' = true) (hS : S.length ≤ 4294967296)
    (d : D w0 (Rw elem es sv S.length (S.flatMap f) :: L) w)
    (hix : ∀ (w : World) (K : Value → WP), D w0 (Rw elem es sv S.length (S.flatMap f) :: L) w → (∀ w', D w0 (Rw elem es sv S.length (S.flatMap f) :: L) w' → K (.int .i64 (fidx p S)) w') → FnV P (.func (.func n) #[] #[]) #[sv, y] K w)
    (hy : ∀ (A B : HP) (x : α) (w : World) (K : Value → WP), x ∈ S → D w0 (A :: B :: L) w → (∀ w', D w0 (A :: B :: L) w' → K (.bool (p x)) w') → FnV P y #[.agg (f x).toArray] K w)
    (k : ∀ sv' w', D w0 (Rw elem es sv' (S.filter fun x => !p x).length ((S.filter fun x => !p x).flatMap f) :: L) w' → K sv' w') : GDelF P n elem es zero sv y K w := by
  unfold GDelF
  refine hix _ _ d fun w d => ?_
  simp only [SEM]
  refine ⟨fun h => ?_, fun h => ?_⟩
  · have := k sv w
    rw [fidx_none h] at this
    exact this d
  obtain ⟨i0, hi0, hle0, he0, hb0⟩ : ∃ i0 : Nat, ∃ h : i0 < S.length, p S[i0] = true ∧ fidx p S = i0 ∧ ∀ j (hj : j < S.length), j < i0 → p S[j] = false := by
    unfold fidx at h ⊢
    split at h
    · rename_i hlt
      refine ⟨S.findIdx p, hlt, List.findIdx_getElem (w := hlt), by rw [if_pos hlt], fun j hj hji => by simpa using List.not_of_lt_findIdx hji⟩
    · omega
  rw [he0, w64 (by omega) (by omega)]
  obtain ⟨b, cap, junk0, rfl, hcap, hl2, -⟩ := Rw.block d.1 (by omega)
  refine ⟨fun vs w' => ∃ (i j : Nat) (T : List α), vs = [.int .i64 i, .int .i64 j] ∧ i < j ∧ j ≤ S.length ∧ T.length = S.length ∧ T.take i = (S.take j).filter (fun x => !p x) ∧ T.drop j = S.drop j ∧ D w0 (Rw elem es (.slice (some ⟨b, 0, none⟩) S.length cap) T.length (T.flatMap f) :: L) w', fun vs _ => match vs with | [_, .int _ j] => S.length - j.toNat | _ => 0, ⟨i0, i0 + 1, S, rfl, by omega, by omega, rfl, ?_, rfl, d⟩, ?_⟩
  · rw [List.take_succ_eq_append_getElem hi0, List.filter_append, filter_take_none hb0]
    simp [hle0]
  clear d
  rintro _ w ⟨i, j, T, rfl, hij, hj, hT, ht1, ht2, d⟩ _
  simp only [UN]
  simp only [SEM]
  refine ⟨fun hlt => ?_, fun hge => ?_⟩
  · have hlt' : j < T.length := by omega
    have hTj : T[j] = S[j]'(by omega) := by
      have e1 : (T.drop j)[0]? = (S.drop j)[0]? := by rw [ht2]
      rw [List.getElem?_drop, List.getElem?_drop, Nat.add_zero, List.getElem?_eq_getElem hlt', List.getElem?_eq_getElem (by omega)] at e1
      exact Option.some.inj e1
    obtain ⟨b1, cap1, cs, e, g, hc⟩ := rec_at hf d (i := (j : Int)) (by omega) (by omega)
    rw [hT] at e
    cases e
    refine ia_ok (by omega) (by omega) ?_
    refine hldN _ _ T[j] _ _ _ _ hf g (fun q x hx => by rw [Nat.zero_add]; exact hc q x hx) ?_
    rw [hTj]
    have hmem : S[j]'(by omega) ∈ S := List.getElem_mem _
    refine d_new' (t := elem) zero.toList (by simp) d fun bn w d => ?_
    refine d_st d (by rw [cells_agg, List.size_toArray, hf]) (by rw [Nat.zero_add, Array.length_toList, hz]; exact Nat.le_refl _) (by rw [cells_agg]; exact h1 _ hmem) fun w d => ?_
    rw [cells_agg, splice_whole (by simp [hf, hz])] at d
    refine ldN d.get (f S[j]) (hf _) (fun q x hx => by rw [Nat.zero_add]; exact hx) ?_
    refine hy _ _ _ _ _ hmem d fun w d => ?_
    simp only [SEM]
    refine ⟨fun hp => ?_, fun hp => ?_⟩
    · refine ldN d.get (f S[j]) (hf _) (fun q x hx => by rw [Nat.zero_add]; exact hx) ?_
      refine rw_st (S := T) (f := f) (n := i) d.tail (by omega) (S[j]'(by omega)) (.h _) hf (by rw [cells_agg]) (h1 _ hmem) fun w d => ?_
      simp only [SEM]
      rw [w64 (by omega) (by omega), w64 (by omega) (by omega)]
      refine ⟨⟨i + 1, j + 1, T.set i S[j], by simp, by omega, by omega, by simp [hT], ?_, ?_, d⟩, by show S.length - ((j : Int) + 1).toNat < S.length - (j : Int).toNat; omega⟩
      · rw [List.take_succ_eq_append_getElem (by simp; omega), List.take_set_of_le (Nat.le_refl _), ht1, List.take_succ_eq_append_getElem (i := j) (by omega), List.filter_append]
        simp [hp]
      · rw [List.drop_set_of_lt (by omega), ← List.drop_drop, ← List.drop_drop, ht2]
    · rw [w64 (by omega) (by omega)]
      refine ⟨⟨i, j + 1, T, by simp, by omega, by omega, hT, ?_, ?_, d.tail⟩, by show S.length - ((j : Int) + 1).toNat < S.length - (j : Int).toNat; omega⟩
      · rw [ht1, List.take_succ_eq_append_getElem (i := j) (by omega), List.filter_append]
        simp [hp]
      · rw [← List.drop_drop, ← List.drop_drop, ht2]
  · have hj' : j = S.length := by omega
    subst hj'
    rw [List.take_length] at ht1
    obtain ⟨b1, cap1, junk, e, hcap1, hl3, s⟩ := Rw.block d.1 (by omega)
    rw [hT] at e
    cases e
    have d1 : D w0 (cel b elem (T.flatMap f ++ junk) :: L) w := ⟨s, d.2⟩
    refine slc_ok i S.length rfl ⟨_, rfl, by omega⟩ rfl ?_
    rw [if_neg (by omega)]
    simp only [Option.map_some, add_of, Nat.zero_add]
    have hm : (S.length - i) * es + i * es = S.length * es := by rw [← Nat.add_mul]; congr 1; omega
    have hce : S.length * es ≤ cap * es := Nat.mul_le_mul_right _ hcap
    refine clr_ok d1 (by omega) hz1 (by rw [hl3, hz]; omega) fun w d2 => ?_
    refine slc_ok 0 i ⟨_, rfl, by omega⟩ rfl rfl ?_
    have e0 : (if cap = 0 then (some ⟨b, 0, none⟩ : Option Addr) else (some ⟨b, 0, none⟩ : Option Addr).map (·.add (0 * es))) = some ⟨b, 0, none⟩ := by
      split
      · rfl
      · simp [add_of]
    rw [e0, Nat.sub_zero, Nat.sub_zero]
    have hlen : (S.filter fun x => !p x).length = i := by rw [← ht1, List.length_take]; omega
    have hzl : ((Builtin.zeroCells zero (S.length - i)).toList).length = (S.length - i) * es := by rw [zeros_len, hz]
    have hti : ((T.take i).flatMap f).length = i * es := by rw [flat_len hf, List.length_take]; congr 1; omega
    have hsp : splice (T.flatMap f ++ junk) (i * es) (Builtin.zeroCells zero (S.length - i)).toList = (T.take i).flatMap f ++ ((Builtin.zeroCells zero (S.length - i)).toList ++ junk) := by
      have e1 : T.flatMap f = (T.take i).flatMap f ++ (T.drop i).flatMap f := by rw [← List.flatMap_append, List.take_append_drop]
      have h4 : ((T.drop i).flatMap f).length = (S.length - i) * es := by rw [flat_len hf, List.length_drop, hT]
      rw [splice_eq _ _ _ (by rw [hl3, hzl]; omega), e1, List.append_assoc ((T.take i).flatMap f), hzl, List.take_append_of_le_length (by omega), List.take_of_length_le (by omega), ← List.append_assoc ((T.take i).flatMap f), List.drop_append, List.drop_eq_nil_of_le (by rw [List.length_append]; omega), List.nil_append, List.length_append, hti, h4, Nat.sub_self, List.drop_zero, List.append_assoc]
    rw [hsp, ht1] at d2
    refine k _ _ ?_
    rw [hlen]
    refine ⟨Rw.mk d2.1 (by omega) (by rw [flat_len hf, hlen]) ?_, d2.2⟩
    rw [← ht1, ← hsp, splice_length]; exact hl3
end
end Go.Jac

set_option maxRecDepth 100000
namespace Go.Jac
open Go Go.Proofs Go.Sort Go.Shelf
theorem Sat.ext : ∀ {L : List HP} {h h' : Hp}, Sat L h → (∀ b o, h b = some o → h' b = some o) → Sat L h'
  | [], _, _, _, _ => trivial
  | A :: L, h, h', s, g => by
    obtain ⟨h1, h2, s1, a, l⟩ := s
    refine ⟨h1, fun b => if (h1 b).isSome then none else h' b, fun b => ?_, a, Sat.ext l fun b o hb => ?_⟩
    · cases hb : h1 b with
      | none => left; simp [hb]
      | some o => right; exact ⟨by simp [hb], g b o (s1.l hb)⟩
    · have : h1 b = none := s1.comm.off hb
      simp only [this, Option.isSome_none, Bool.false_eq_true, if_false]
      exact g b o (s1.r hb)
theorem grown_of {a b : World} (h1 : b.os = a.os) (h2 : b.tape = a.tape) (h3 : b.output = a.output) (h4 : a.drawn ≤ b.drawn) (h5 : a.heap.size ≤ b.heap.size) (h6 : ∀ i, i < a.heap.size → b.heap[i]? = a.heap[i]?) :
    ∃ q os, b = grow (a.drewN q) os := by
  refine ⟨b.drawn - a.drawn, b.heap.extract a.heap.size b.heap.size, ?_⟩
  have hh : b.heap = a.heap ++ b.heap.extract a.heap.size b.heap.size := by
    apply Array.ext_getElem?
    intro i
    rw [Array.getElem?_append]
    split
    · rename_i hi; exact h6 i hi
    · rename_i hi
      rw [Array.getElem?_extract]
      split
      · congr 1; omega
      · rw [Array.getElem?_eq_none (by omega)]
  have hd : b.drawn = a.drawn + (b.drawn - a.drawn) := by omega
  cases a; cases b
  simp only [grow, World.drewN] at *
  subst h1 h2 h3
  rw [← hd, ← hh]
theorem D.grown {w0 w : World} {L : List HP} (d : D w0 (Old w0 :: L) w) : ∃ q os, w = grow (w0.drewN q) os :=
  have hb := d.below
  grown_of hb.os hb.tape hb.output d.2.drawn hb.size hb.block
section
variable {α : Type} [Inhabited α] {f : α → List Value} {es : Nat}
theorem flatK_get (hf : ∀ x, (f x).length = es) {S : List α} {j : Nat} (h : j < S.length * es) : (S.flatMap f)[j]? = some ((flatK f es S.toArray)[j]!) := by
  have he : 0 < es := by rcases Nat.eq_zero_or_pos es with h0 | h0; · rw [h0] at h; omega
                         · exact h0
  have hi : j / es < S.length := Nat.div_lt_of_lt_mul (by rwa [Nat.mul_comm] at h)
  have hm : j % es < es := Nat.mod_lt _ he
  rw [get_flatK _ _ _ _ (by simpa using h)]
  obtain ⟨pre, post, e1, e2, -⟩ := flat_at hf hi
  have hj : j = pre.length + j % es := by rw [e2, Nat.mul_comm]; exact (Nat.div_add_mod j es).symm
  have hl : j % es < (f S[j / es]).length := by rw [hf]; exact hm
  have hs : j - pre.length = j % es := by omega
  rw [e1, List.append_assoc, List.getElem?_append_right (by omega), hs, List.getElem?_append_left hl, List.getElem?_eq_getElem hl]
  congr 1
  rw [getElem!_pos S.toArray (j / es) (by simpa using hi), List.getElem_toArray]
  exact (getElem!_pos (f S[j / es]) (j % es) hl).symm
theorem flatK_list (hf : ∀ x, (f x).length = es) (S : List α) : (flatK f es S.toArray) = (S.flatMap f).toArray := by
  apply Array.ext_getElem?
  intro j
  by_cases h : j < S.length * es
  · rw [show (S.flatMap f).toArray[j]? = (S.flatMap f)[j]? from List.getElem?_toArray .., flatK_get hf h, getElem!_pos _ _ (by simpa using h), Array.getElem?_eq_getElem]
  · rw [Array.getElem?_eq_none (by simp; omega), Array.getElem?_eq_none (by rw [List.size_toArray, flat_len hf]; omega)]
theorem putCells_list {A B J : List Value} (h : B.length = A.length) : putCells id 0 A.toArray (B ++ J).toArray = (A ++ J).toArray := by
  apply Array.ext_getElem?
  intro j
  unfold putCells
  rw [Array.getElem?_mapIdx, List.getElem?_toArray, List.getElem?_toArray, List.size_toArray]
  by_cases hj : j < A.length
  · rw [List.getElem?_append_left (by omega), List.getElem?_append_left hj, List.getElem?_eq_getElem (by omega), Option.map_some, if_pos ⟨by omega, by omega⟩, Nat.sub_zero, List.getElem?_eq_getElem hj]
    congr 1
    rw [getElem!_pos A.toArray j (by simpa using hj)]
    simp
  · rw [List.getElem?_append_right (by omega), List.getElem?_append_right (by omega), h]
    cases hx : J[j - A.length]? with
    | none => rfl
    | some x => simp [hj]
variable {P : Program} {ρ : Ren} {w0 w : World} {L : List HP} {K : Value → WP} {elem : Nat} {sv : Value} {S : List α}
theorem sort_k (SL : SlLaysF0.n6 P ρ) (aE : ∀ w, (isAgg (ρ.t 24)).run P w = .ok true w) (zE : ∀ w, (Go.sizeOf (ρ.t 24)).run P w = .ok es w) (hf : ∀ x, (f x).length = es) (h1 : ∀ x, ∀ v ∈ f x, v.oneCell' = true) {cf : α → α → Int} (hO : SWO (ltOf cf)) {g : Nat} (eg : ∀ args w, (callFunc g args).run P w = .ok (.enter g args) w)
    (hc : ∀ (w : World) (x y : α) (K : Value → WP), (∀ w', D w [Old w] w' → K (.int .i64 (cf x y)) w') → Cl P g #[.agg (f x).toArray, .agg (f y).toArray] K w) (hsz : S.length < 4611686018427387904)
    (d : D w0 (Rw elem es sv S.length (S.flatMap f) :: L) w) (k : ∀ (S' : List α) w', S'.Perm S → S'.Pairwise (fun a b => 0 ≤ cf b a) → D w0 (Rw elem es sv S'.length (S'.flatMap f) :: L) w' → K (.tuple #[]) w') :
    Cl P (ρ.f 6) #[sv, .func (.func g) #[] #[]] K w := by
  rcases Nat.eq_zero_or_pos S.length with hz | hp
  · obtain ⟨p, c, rfl, -⟩ := Rw.shape d.1
    have hS : S = [] := List.eq_nil_of_length_eq_zero hz
    subst hS
    refine (AnyF.slices_SortFunc_none SL p c _ w).mono ?_
    rintro e w' ⟨rfl, rfl⟩
    exact ⟨_, rfl, k [] _ (List.Perm.refl _) .nil d⟩
  · obtain ⟨b, cap, junk, rfl, hle, hl2, s⟩ := Rw.block d.1 hp
    have gb : hw w b = some (.cells (S.flatMap f ++ junk).toArray elem (0, 0)) := s.get
    have hb : b < w.heap.size := (Array.getElem?_eq_some_iff.1 gb).1
    have hH : HoldsK f es w b 0 S.toArray := by
      intro j hj
      rw [size_flatK] at hj
      have hj' : j < S.length * es := hj
      refine ⟨(cell_of gb _).trans ?_, free_of gb _⟩
      rw [Nat.zero_add, List.getElem?_append_left (by rw [flat_len hf]; exact hj')]
      exact flatK_get hf hj'
    refine (AnyQ.slices_SortFunc SL es aE zE f hf h1 cf hO g #[] b 0 cap S.toArray w eg ?_ hH hb (by simpa using hsz)).mono ?_
    · intro m os dk hs x y
      refine Calls.mono (hc _ x y (fun v w' => v = .int .i64 (cf x y) ∧ ∃ q os', w' = grow ((sortWorldK f es w b 0 m dk os).drewN q) os') fun w' d' => ⟨rfl, d'.grown⟩) ?_
      rintro e w' ⟨v, rfl, rfl, h⟩
      exact ⟨rfl, h⟩
    · rintro e w' ⟨rfl, d', n, os, hp1, hs1, rfl⟩
      obtain ⟨hsize, -, hperm⟩ := hp1
      have hsz' : d'.size = S.length := by simpa using hsize
      have hpm : d'.toList.Perm S := by
        have h1 : d'.extract 0 S.toArray.size = d' := by rw [← hsize]; exact Array.extract_size
        rw [h1, Array.extract_size] at hperm
        exact hperm
      have hfl : (d'.toList.flatMap f).length = (S.flatMap f).length := by rw [flat_len hf, flat_len hf, hpm.length_eq]
      refine ⟨_, rfl, k d'.toList _ hpm ?_ ?_⟩
      · rw [List.pairwise_iff_getElem]
        intro i j hi hj hij
        have hi' : i < d'.size := hi
        have hj' : j < d'.size := hj
        have := hs1 i j (Nat.zero_le _) hij (by simpa [← hsz'] using hj')
        unfold ltOf at this
        rw [getElem!_pos d' j hj', getElem!_pos d' i hi'] at this
        simpa using this
      · have ho : putCells id 0 (flatK f es d') (S.flatMap f ++ junk).toArray = (d'.toList.flatMap f ++ junk).toArray := by
          rw [show d' = d'.toList.toArray from rfl, flatK_list hf]
          exact putCells_list hfl.symm
        have hn : d'.toList.length = S.length := hpm.length_eq
        have hset : ∀ b' o, Hp.set (hw w) b (.cells (d'.toList.flatMap f ++ junk).toArray elem (0, 0)) b' = some o → hw (sortWorldK f es w b 0 n d' os) b' = some o := by
          intro b' o hbo
          have hlt : b' < w.heap.size := by
            unfold Hp.set at hbo
            split at hbo
            · rename_i e; rw [e]; exact hb
            · exact (Array.getElem?_eq_some_iff.1 hbo).1
          show ((w.heap.modify b (onCells (putCells id 0 (flatK f es d')))) ++ os)[b']? = some o
          rw [Array.getElem?_append_left (by rw [Array.size_modify]; exact hlt), Array.getElem?_modify]
          unfold Hp.set at hbo
          split at hbo
          · rename_i e
            subst e
            have gb' : w.heap[b']? = some (.cells (S.flatMap f ++ junk).toArray elem (0, 0)) := gb
            rw [if_pos rfl, gb', Option.map_some, ← hbo, onCells, ho]
          · rename_i e
            rw [if_neg fun h => e h.symm]
            exact hbo
        have kp : Kp w (sortWorldK f es w b 0 n d' os) := ⟨rfl, rfl, rfl, by show w.heap.size ≤ ((w.heap.modify b (onCells (putCells id 0 (flatK f es d')))) ++ os).size; simp, Nat.le_add_right _ _⟩
        rw [hn]
        exact ⟨Rw.mk (b := b) (cap := cap) (junk := junk) (Sat.ext (s.set (o' := .cells (d'.toList.flatMap f ++ junk).toArray elem (0, 0))) hset) hle (by rw [flat_len hf, hn]) (by rw [List.length_append, hfl, ← List.length_append]; exact hl2), d.2.trans kp⟩
end
end Go.Jac

set_option maxRecDepth 100000
set_option maxHeartbeats 4000000
namespace Go.Proofs.Ytgkbbihaaichbaa
open Go Go.Jac Go.Shelf
def sRen : Ren := ⟨fun | 6 => 85 | 15 => 89 | 14 => 94 | 28 => 104 | 29 => 105 | 20 => 107 | 21 => 108 | 22 => 109 | 23 => 110 | 24 => 111 | 25 => 112 | 26 => 113 | 27 => 114 | 46 => 120 | 47 => 116 | 48 => 117 | 49 => 121 | 50 => 122 | 57 => 124 | n => n, fun | 22 => 33 | 24 => 72 | 25 => 121 | 3 => 3 | 39 => 128 | 0 => 0 | 53 => 153 | 55 => 155 | 4 => 4 | 46 => 147 | 45 => 146 | 50 => 79 | 5 => 5 | 9 => 9 | 66 => 162 | 70 => 166 | 76 => 170 | 77 => 171 | n => n, fun n => n⟩
theorem sLay : SlLaysF0.n6 Try.prog sRen where
  mixed := by kernel_rfl
  f6 := ⟨"slices.SortFunc[[]jacinth/region.Piece,jacinth/region.Piece]", by decide, Try.func85.trans (congrArg some (by kernel_rfl))⟩
  f14 := ⟨"slices.pdqsortCmpFunc[jacinth/region.Piece]", by decide, Try.func94.trans (congrArg some (by kernel_rfl))⟩
  f15 := Try.func89.trans (congrArg some (by kernel_rfl))
  f20 := ⟨"slices.insertionSortCmpFunc[jacinth/region.Piece]", by decide, Try.func107.trans (congrArg some (by kernel_rfl))⟩
  f21 := ⟨"slices.heapSortCmpFunc[jacinth/region.Piece]", by decide, Try.func108.trans (congrArg some (by kernel_rfl))⟩
  f22 := ⟨"slices.breakPatternsCmpFunc[jacinth/region.Piece]", by decide, Try.func109.trans (congrArg some (by kernel_rfl))⟩
  f23 := ⟨"slices.choosePivotCmpFunc[jacinth/region.Piece]", by decide, Try.func110.trans (congrArg some (by kernel_rfl))⟩
  f24 := ⟨"slices.reverseRangeCmpFunc[jacinth/region.Piece]", by decide, Try.func111.trans (congrArg some (by kernel_rfl))⟩
  f25 := ⟨"slices.partialInsertionSortCmpFunc[jacinth/region.Piece]", by decide, Try.func112.trans (congrArg some (by kernel_rfl))⟩
  f26 := ⟨"slices.partitionEqualCmpFunc[jacinth/region.Piece]", by decide, Try.func113.trans (congrArg some (by kernel_rfl))⟩
  f27 := ⟨"slices.partitionCmpFunc[jacinth/region.Piece]", by decide, Try.func114.trans (congrArg some (by kernel_rfl))⟩
  f28 := Try.func104.trans (congrArg some (by kernel_rfl))
  f29 := Try.func105.trans (congrArg some (by kernel_rfl))
  f46 := ⟨"slices.siftDownCmpFunc[jacinth/region.Piece]", by decide, Try.func120.trans (congrArg some (by kernel_rfl))⟩
  f47 := Try.func116.trans (congrArg some (by kernel_rfl))
  f48 := Try.func117.trans (congrArg some (by kernel_rfl))
  f49 := ⟨"slices.medianAdjacentCmpFunc[jacinth/region.Piece]", by decide, Try.func121.trans (congrArg some (by kernel_rfl))⟩
  f50 := ⟨"slices.medianCmpFunc[jacinth/region.Piece]", by decide, Try.func122.trans (congrArg some (by kernel_rfl))⟩
  f57 := ⟨"slices.order2CmpFunc[jacinth/region.Piece]", by decide, Try.func124.trans (congrArg some (by kernel_rfl))⟩
  t0 := Try.underlying0
  a0 := Try.isAgg0
  z0 := Try.sizeOf0
  v0 := Try.zeroValue0
  t3 := Try.underlying3
  a3 := Try.isAgg3
  z3 := Try.sizeOf3
  v3 := Try.zeroValue3
  t4 := Try.underlying4
  a4 := Try.isAgg4
  z4 := Try.sizeOf4
  v4 := Try.zeroValue4
  t5 := Try.underlying5
  a5 := Try.isAgg5
  z5 := Try.sizeOf5
  v5 := Try.zeroValue5
  t9 := Try.underlying9
  a9 := Try.isAgg9
  z9 := Try.sizeOf9
  v9 := Try.zeroValue9
  t22 := Try.underlying33
  a22 := Try.isAgg33
  z22 := Try.sizeOf33
  v22 := Try.zeroValue33
  t25 := Try.underlying121
  a25 := Try.isAgg121
  z25 := Try.sizeOf121
  v25 := Try.zeroValue121
  t39 := Try.underlying128
  a39 := Try.isAgg128
  z39 := Try.sizeOf128
  v39 := Try.zeroValue128
  t45 := Try.underlying146
  a45 := Try.isAgg146
  z45 := Try.sizeOf146
  v45 := Try.zeroValue146
  t46 := Try.underlying147
  a46 := Try.isAgg147
  z46 := Try.sizeOf147
  v46 := Try.zeroValue147
  t50 := Try.underlying79
  a50 := Try.isAgg79
  z50 := Try.sizeOf79
  v50 := Try.zeroValue79
  t53 := Try.underlying153
  a53 := Try.isAgg153
  z53 := Try.sizeOf153
  v53 := Try.zeroValue153
  t55 := Try.underlying155
  a55 := Try.isAgg155
  z55 := Try.sizeOf155
  v55 := Try.zeroValue155
  t66 := Try.underlying162
  a66 := Try.isAgg162
  z66 := Try.sizeOf162
  v66 := Try.zeroValue162
  t70 := Try.underlying166
  a70 := Try.isAgg166
  z70 := Try.sizeOf166
  v70 := Try.zeroValue166
  t76 := Try.underlying170
  a76 := Try.isAgg170
  z76 := Try.sizeOf170
  v76 := Try.zeroValue170
  t77 := Try.underlying171
  a77 := Try.isAgg171
  z77 := Try.sizeOf171
  v77 := Try.zeroValue171
theorem sAgg : ∀ w, (isAgg (sRen.t 24)).run Try.prog w = .ok true w := Try.isAgg72
theorem sSize : ∀ w, (Go.sizeOf (sRen.t 24)).run Try.prog w = .ok 5 w := Try.sizeOf72
theorem sRoot : sRen.f 6 = 85 := rfl
end Go.Proofs.Ytgkbbihaaichbaa

set_option maxRecDepth 100000
namespace Go.Jac
open Go
structure MitOk (es : Array MapEntry) (clock since c0 : Nat) (seen : Array Nat) (g : Int → Option Value) (n m : Nat) (cur : Option (Int × Value)) : Prop where
  map : MpOk es.toList clock g n
  old : ∀ x ∈ es.toList, x.born < since
  le : since ≤ c0
  le2 : since ≤ clock
  left : (leftOf es seen).size = m
  now : ∀ k v, cur = some (k, v) → ∃ e ∈ es.toList, ∃ s : Array Nat, seen = s.push e.born ∧ e.key = .int .i64 k ∧ e.val = v ∧ c0 = clock
/-- A walk through a map: m entries are left. -/
def Mit (r b : Nat) (g : Int → Option Value) (n m : Nat) (cur : Option (Int × Value)) : HP := ex fun (p : (Array MapEntry × Nat) × (Nat × Array Nat × Nat)) =>
  sat [pts r (.mapIter (some b) p.2.1 p.2.2.1 p.2.2.2), pts b (.map p.1.1 p.1.2), pr (MitOk p.1.1 p.1.2 p.2.1 p.2.2.2 p.2.2.1 g n m cur)]
/-- How many entries a walk has left. -/
def mitLeft (r b : Nat) (w : World) : Nat := match w.heap[r]?, w.heap[b]? with | some (.mapIter _ _ seen _), some (.map es _) => (leftOf es seen).size | _, _ => 0
section
variable {P : Program} {w0 w : World} {L : List HP} {K : Value → WP} {r b n m : Nat} {g : Int → Option Value} {t kt et : TypeId} {k : Int} {v : Value} {cur : Option (Int × Value)}
theorem Mit.out (d : D w0 (Mit r b g n m cur :: L) w) : ∃ es clock since seen c0, MitOk es clock since c0 seen g n m cur ∧ D w0 (pts r (.mapIter (some b) since seen c0) :: pts b (.map es clock) :: L) w := by
  obtain ⟨p, d⟩ := d.ex
  have d := d.opens
  have h : MitOk p.1.1 p.1.2 p.2.1 p.2.2.2 p.2.2.1 g n m cur := (d.pick 2 : D w0 (pr _ :: _) w).1.pr_out
  exact ⟨_, _, _, _, _, h, (d.pick 2 : D w0 (pr _ :: _) w).tail⟩
theorem Mit.mk {es : Array MapEntry} {clock since c0 : Nat} {seen : Array Nat} (h : MitOk es clock since c0 seen g n m cur) (d : D w0 (pts r (.mapIter (some b) since seen c0) :: pts b (.map es clock) :: L) w) : D w0 (Mit r b g n m cur :: L) w :=
  D.mk_ex (A := fun (p : (Array MapEntry × Nat) × (Nat × Array Nat × Nat)) => sat [pts r (.mapIter (some b) p.2.1 p.2.2.1 p.2.2.2), pts b (.map p.1.1 p.1.2), pr (MitOk p.1.1 p.1.2 p.2.1 p.2.2.2 p.2.2.1 g n m cur)]) ((es, clock), (since, seen, c0)) (D.close (M := [_, _, _]) ⟨(Sat.pr_mk h d.1).back 2, d.2⟩)
theorem Mit.map (d : D w0 (Mit r b g n m cur :: L) w) : D w0 (Mp b g n :: L) w := by
  obtain ⟨es, clock, since, seen, c0, h, d⟩ := Mit.out d
  exact d.tail.hd fun _ hb => ⟨es, clock, hb, h.map⟩
theorem Mit.left_eq (d : D w0 (Mit r b g n m cur :: L) w) : mitLeft r b w = m := by
  obtain ⟨es, clock, since, seen, c0, h, d⟩ := Mit.out d
  have hr : w.heap[r]? = some (.mapIter (some b) since seen c0) := d.1.get
  have hb : w.heap[b]? = some (.map es clock) := d.swap.1.get
  unfold mitLeft
  rw [hr, hb]
  exact h.left
theorem mrange_ok (ht : P.underlying t = some (.map kt et)) (d : D w0 (Mp b g n :: L) w) (kk : ∀ r m w', D w0 (Mit r b g n m none :: L) w' → K (.pointer (some ⟨r, 0, none⟩)) w') : Ex P (Instr.range t (.map (some b))) K w := by
  obtain ⟨es, clock, hb, hm⟩ := Mp.at_ d
  have d1 : D w0 (pts b (.map es clock) :: L) w := by
    obtain ⟨⟨h1, h2, s, ⟨es1, c1, hb1, ok1⟩, l⟩, kp⟩ := d
    have : hw w b = some (.map es1 c1) := s.l hb1
    have e : w.heap[b]? = some (.map es1 c1) := this
    rw [hb] at e
    obtain ⟨rfl, rfl⟩ : es = es1 ∧ clock = c1 := by injection e with e; injection e with e1 e2; exact ⟨e1, e2⟩
    exact ⟨⟨h1, h2, s, hb1, l⟩, kp⟩
  refine ⟨_, _, run_range_map w t kt et b es clock ht hb, kk _ _ _ (Mit.mk (seen := #[]) ⟨hm, hm.born, Nat.le_refl _, Nat.le_refl _, rfl, by simp⟩ ⟨?_, d1.2.trans (Kp.alloc _ _)⟩)⟩
  rw [hw_alloc]
  exact Sat.new (hw_none w) d1.1
theorem mnext_ok {ty : TypeId} (d : D w0 (Mit r b g n m cur :: L) w) (k0 : ∀ w', D w0 (Mit r b g n m none :: L) w' → K (.tuple #[.bool false]) w')
    (k1 : ∀ m' k v w', m' < m → g k = some v → D w0 (Mit r b g n m' (some (k, v)) :: L) w' → K (.tuple #[.bool true, .int .i64 k, v]) w') : Ex P (Instr.next (.pointer (some ⟨r, 0, none⟩)) false ty) K w := by
  obtain ⟨es, clock, since, seen, c0, h, d⟩ := Mit.out d
  have hr : w.heap[r]? = some (.mapIter (some b) since seen c0) := d.1.get
  have hb : w.heap[b]? = some (.map es clock) := d.swap.1.get
  rcases run_next_at (P := P) w ty r b since c0 seen es clock hr hb h.old h.le with ⟨h0, hrun⟩ | ⟨e, he, w1, hw1, hrun⟩
  · exact ⟨_, _, hrun, k0 _ (Mit.mk ⟨h.map, h.old, h.le, h.le2, h.left, by simp⟩ d)⟩
  · have hmem := mem_left he
    have hkey := h.map.key e hmem.1
    have hg : g (kI e.key) = some e.val := by rw [h.map.get, find_uniq h.map.nd hmem.1]; rfl
    have d1 : D w0 (pts r (.mapIter (some b) since seen c0) :: pts b (.map es clock) :: L) w1 := by
      rcases hw1 with rfl | rfl
      · exact d
      · exact d.drawn
    have d2 := D.put (o' := .mapIter (some b) since (seen.push e.born) clock) d1
    have hlt := left_shrinks es seen e he
    refine ⟨_, _, hrun, ?_⟩
    rw [hkey]
    refine k1 _ _ _ _ (by rw [← h.left]; exact hlt) hg (Mit.mk ⟨h.map, h.old, h.le2, h.le2, rfl, ?_⟩ d2)
    · intro k v hkv
      cases hkv
      exact ⟨e, hmem.1, seen, rfl, hkey, rfl, rfl⟩
theorem mentry_ok (d : D w0 (Mit r b g n m (some (k, v)) :: L) w) (kk : K (.tuple #[.int .i64 k, v]) w) : Ex P (Instr.entry (.pointer (some ⟨r, 0, none⟩))) K w := by
  obtain ⟨es, clock, since, seen, c0, h, d⟩ := Mit.out d
  obtain ⟨e, he, s, rfl, hk, hv, rfl⟩ := h.now k v rfl
  have hr : w.heap[r]? = some (.mapIter (some b) since (s.push e.born) c0) := d.1.get
  have hb : w.heap[b]? = some (.map es c0) := d.swap.1.get
  refine ⟨_, _, run_entry_at w r b since s es c0 e hr hb he h.map.bnd, ?_⟩
  rw [hk, hv]; exact kk
end
end Go.Jac

set_option maxRecDepth 100000
namespace Go.Jac
open Go
def Ro (elem es : Nat) (v : Value) (n : Nat) (cs : List Value) : HP := fun h =>
  (v = .slice none 0 0 ∧ n = 0 ∧ cs = []) ∨
  ∃ b o cap pre junk, v = .slice (some ⟨b, o, none⟩) n cap ∧ n ≤ cap ∧ cs.length = n * es ∧ pre.length = o ∧ h b = some (.cells (pre ++ cs ++ junk).toArray elem (0, 0))
section
variable {P : Program} {w0 w : World} {L : List HP} {K : Value → WP} {elem es n : Nat} {sv : Value} {cs : List Value}
variable {α : Type} {f : α → List Value} {S : List α}
theorem Ro.of (d : D w0 (Rw elem es sv n cs :: L) w) : D w0 (Ro elem es sv n cs :: L) w :=
  d.hd fun h hr => by
    rcases hr with ⟨rfl, rfl, rfl⟩ | ⟨b, cap, junk, rfl, hle, hl, hl2, hb⟩
    · exact .inl ⟨rfl, rfl, rfl⟩
    · exact .inr ⟨b, 0, cap, [], junk, rfl, hle, hl, rfl, by simpa using hb⟩
theorem Ro.shape (d : D w0 (Ro elem es sv n cs :: L) w) : ∃ q c, sv = .slice q n c ∧ n ≤ c := by
  obtain ⟨⟨h1, h2, s, hr, l⟩, _⟩ := d
  rcases hr with ⟨rfl, rfl, rfl⟩ | ⟨b, o, cap, pre, junk, rfl, hle, _⟩
  · exact ⟨_, _, rfl, Nat.le_refl _⟩
  · exact ⟨_, _, rfl, hle⟩
/-- Where an element lies. -/
theorem ro_at (hf : ∀ x, (f x).length = es) (d : D w0 (Ro elem es sv S.length (S.flatMap f) :: L) w) {i : Nat} (hi : i < S.length) :
    ∃ (b o cap : Nat) (cells : List Value), sv = .slice (some ⟨b, o, none⟩) S.length cap ∧ hw w b = some (.cells cells.toArray elem (0, 0)) ∧ ∀ j x, (f S[i])[j]? = some x → cells[o + i * es + j]? = some x := by
  obtain ⟨⟨h1, h2, s, hr, l⟩, _⟩ := d
  rcases hr with ⟨_, h0, _⟩ | ⟨b, o, cap, pre, junk, rfl, hle, hl, ho, hb⟩
  · omega
  · refine ⟨b, o, cap, _, rfl, s.l hb, fun j x hx => ?_⟩
    obtain ⟨p1, p2, e1, e2, _⟩ := flat_at hf (S := S) (i := i) hi
    have hj := (List.getElem?_eq_some_iff.1 hx).1
    rw [List.append_assoc, List.getElem?_append_right (by omega), e1, List.append_assoc, List.append_assoc, List.getElem?_append_right (by omega), show o + i * es + j - pre.length - p1.length = j by omega, List.getElem?_append_left hj]
    exact hx
theorem ro_fld (hf : ∀ x, (f x).length = es) (d : D w0 (Ro elem es sv S.length (S.flatMap f) :: L) w) {i j : Nat} {v : Value} (hi : i < S.length) (hv : (f S[i])[j]? = some v) (k : K v w) : IA es sv (.int .i64 i) (fun p => FA p j fun q => Ld1 q fun u => K u) w := by
  obtain ⟨b, o, cap, cells, rfl, g, hc⟩ := ro_at hf d hi
  refine ia_ok (by omega) (by omega) ?_
  rw [FA_p, Int.toNat_natCast]
  exact ld1 g (hc j v hv) k
theorem ro_elN (hf : ∀ x, (f x).length = es) (d : D w0 (Ro elem es sv S.length (S.flatMap f) :: L) w) {i : Nat} (hi : i < S.length) (k : K (.agg (f S[i]).toArray) w) : IA es sv (.int .i64 i) (fun p => LdN es p fun u => K u) w := by
  obtain ⟨b, o, cap, cells, rfl, g, hc⟩ := ro_at hf d hi
  refine ia_ok (by omega) (by omega) ?_
  rw [Int.toNat_natCast]
  exact ldN g (f S[i]) (hf _) hc k
theorem qiar {I : WP} {B : Value → WP} {b o c m n : Nat} {k : IntKind} (hn : n < m) (kk : B (.pointer (some ⟨b, o + n * es, none⟩)) w) : QE I (fun KK => IA es (.slice (some ⟨b, o, none⟩) m c) (.int k (n : Int)) fun v => KK v) B w :=
  qe _ (fun _ _ => ia_ok (by omega) (by omega) ⟨by simp, rfl⟩) kk
theorem qro {B : Value → WP} {b o c m n j : Nat} {v : Value} (i : In (Ro elem es (.slice (some ⟨b, o, none⟩) m c) S.length (S.flatMap f)) L) (hf : ∀ x, (f x).length = es) (hn : n < S.length) (hv : (f S[n])[j]? = some v) (k : B v w) : QE (D w0 L) (fun KK => Ld1 (.pointer (some ⟨b, o + n * es + j, none⟩)) fun v => KK v) B w :=
  qe _ (fun w' d => by
    obtain ⟨M, h⟩ := i.front
    obtain ⟨b', o', cap, cs, e, g, hc⟩ := ro_at hf (L := M) ⟨h _ d.1, d.2⟩ hn
    injection e with e1 e2 e3
    injection e1 with e1
    injection e1 with e1 e4
    subst e1 e4
    exact ld1 g (hc j v hv) ⟨rfl, rfl⟩) k
/-- All but the first. -/
theorem ro_tail {x : α} {R : List α} (hf : ∀ x, (f x).length = es) (d : D w0 (Ro elem es sv (x :: R).length ((x :: R).flatMap f) :: L) w)
    (k : ∀ sv', D w0 (Ro elem es sv' R.length (R.flatMap f) :: L) w → K sv' w) : SlC es sv (some (.int .i64 1)) none K w := by
  obtain ⟨⟨h1, h2, s, hr, l⟩, kp⟩ := d
  rcases hr with ⟨_, h0, _⟩ | ⟨b, o, cap, pre, junk, rfl, hle, hl, ho, hb⟩
  · simp at h0
  · rw [List.length_cons] at hle
    refine slc_ok 1 (x :: R).length rfl ⟨_, rfl, by simp⟩ rfl ?_
    refine k _ ⟨⟨h1, h2, s, .inr ?_, l⟩, kp⟩
    have hcells : pre ++ (x :: R).flatMap f ++ junk = (pre ++ f x) ++ R.flatMap f ++ junk := by simp
    rw [hcells] at hb
    by_cases e : cap = 1
    · have hR : R = [] := List.length_eq_zero_iff.1 (by omega)
      subst hR
      rw [if_pos e]
      exact ⟨b, o, cap - 1, pre, f x ++ junk, by simp, by simp, by simp, ho, by simpa using hb⟩
    · rw [if_neg e]
      refine ⟨b, o + es, cap - 1, pre ++ f x, junk, ?_, by omega, flat_len hf, by rw [List.length_append, ho, hf], hb⟩
      simp [add_of]
end
end Go.Jac

set_option maxRecDepth 100000
set_option maxHeartbeats 4000000
namespace Go.Jac
open Go
section
variable {P : Program} {w0 w : World} {L : List HP} {K : Value → WP} {elem es bytes n : Nat} {t dT sT ty : TypeId} {zero : Array Value} {sv : Value} {cs news X Z : List Value} {b o bs : Nat} {inf : TypeInfo} {z : Value}
theorem run_copy_es {p a : Addr} {dLen dCap sLen sCap : Nat} (hu : P.underlying dT = some (.slice elem)) (hi : P.info? elem = some inf) (hn : cs.length = Nat.min sLen dLen * inf.size)
    (hsrc : ∀ j v, cs[j]? = some v → w.cell? (a.add j) = some v) (hst : Storable w p cs 0) :
    (Builtin.copy_ #[dT, sT] ty #[.slice (some p) dLen dCap, .slice (some a) sLen sCap]).run P w = .ok (goInt (Nat.min sLen dLen)) (stCells p cs 0 w) := by
  have hl := run_firstCells_some (P := P) (w := w) inf.size (Nat.min sLen dLen) a sLen sCap cs hn hsrc
  simp [Builtin.copy_, run_underlying hu, Builtin.lenOf, run_sizeOf hi, hl, run_stCells _ _ _ hst]
/-- Cells copied into a block. -/
theorem cp_ok {a : Addr} {dLen dCap sLen sCap : Nat} (hu : P.underlying dT = some (.slice elem)) (hi : P.info? elem = some inf) (d : D w0 (cel b t cs :: L) w) (hn : news.length = Nat.min sLen dLen * inf.size)
    (hsrc : ∀ j v, news[j]? = some v → w.cell? (a.add j) = some v) (hl : o + news.length ≤ cs.length) (h1 : ∀ v ∈ news, v.oneCell' = true)
    (k : ∀ v w', D w0 (cel b t (splice cs o news) :: L) w' → K v w') : Ex P (Builtin.copy_ #[dT, sT] ty #[.slice (some ⟨b, o, none⟩) dLen dCap, .slice (some a) sLen sCap]) K w := by
  have g := d.get
  have hst : Storable w ⟨b, o, none⟩ news 0 := by
    intro j x hx
    have hj := (List.getElem?_eq_some_iff.1 hx).1
    refine ⟨h1 x (List.mem_of_getElem? hx), ?_, ?_⟩
    · rw [add_of, cell_of g]
      exact ⟨_, List.getElem?_eq_getElem (by omega)⟩
    · rw [add_of]; exact free_of g _
  refine ⟨_, _, run_copy_es hu hi hn hsrc hst, k _ _ ⟨?_, d.2.trans (Kp.stCells ⟨b, o, none⟩ news 0 w)⟩⟩
  rw [hw_stCells _ cs 0 w g]
  exact d.1.set
theorem cap_ok {q : Option Addr} {m c : Nat} (hu : P.underlying t = some (.slice elem)) (k : K (.int .i64 c) w) : Ex P (Builtin.cap_ #[t] ty #[.slice q m c]) K w :=
  ⟨_, w, by simp [Builtin.cap_, run_underlying hu]; rfl, k⟩
theorem min2_ok {ts : Array TypeId} {x y : Int} {k k' : IntKind} (kk : K (.int k (min x y)) w) : Ex P (Builtin.min_ ts t #[.int k x, .int k' y]) K w := ⟨_, w, Lib.run_min_ints w ts t k k' x y, kk⟩
theorem max2_ok {ts : Array TypeId} {x y : Int} {k k' : IntKind} (kk : K (.int k (max x y)) w) : Ex P (Builtin.max_ ts t #[.int k x, .int k' y]) K w := ⟨_, w, Lib.run_max_ints w ts t k k' x y, kk⟩
def GIns (P : Program) (t tn elem es bytes : Nat) (zero : Array Value) (fo fr : FuncId) (a0 a1 a2 : Value) (KR : Value → WP) : WP :=
  SlC es a0 (some a1) none fun _ =>
  LenS a2 fun v14 =>
  BinI .eql v14 (.int .i64 0) fun v16 =>
  Cnd v16 (KR a0)
  (LenS a0 fun v19 =>
  BinI .eql a1 v19 fun v22 =>
  Cnd v22 (AppC elem es bytes zero a0 a2 fun v25 =>
  KR v25)
  (BinI .add v19 v14 fun v28 =>
  Ex P (Builtin.cap_ #[t] tn #[a0]) fun v30 =>
  BinI .gtr v28 v30 fun v31 =>
  Cnd v31 (SlC es a0 none (some a1) fun v34 =>
  BinI .add v19 v14 fun v37 =>
  BinI .sub v37 a1 fun v39 =>
  Ex P (Builtin.append_ #[t, tn] t #[v34, v39]) fun v40 =>
  SlC es v40 (some a1) none fun v43 =>
  Ex P (Builtin.copy_ #[t, t] tn #[v43, a2]) fun _ =>
  Drw <| QtC fun I =>
  QE I (fun KK => BinI .add a1 v14 fun v49 =>
  KK v49) fun v49_1 =>
  QE I (fun KK => SlC es v40 (some v49_1) none fun v50 =>
  KK v50) fun v50_1 =>
  QE I (fun KK => SlC es a0 (some a1) none fun v53 =>
  KK v53) fun v53_1 =>
  Ex P (Builtin.copy_ #[t, t] tn #[v50_1, v53_1]) fun _ =>
  KR v40)
  (BinI .add v19 v14 fun v59 =>
  SlC es a0 none (some v59) fun v60 =>
  BinI .add a1 v14 fun v65 =>
  SlC es v60 (some v65) none fun v66 =>
  FnV P (.func (.func fo) #[] #[]) #[a2, v66] fun v67 =>
  Un .not v67 fun v68 =>
  Cnd v68 (Drw <| QtC fun I =>
  QE I (fun KK => BinI .add a1 v14 fun v72 =>
  KK v72) fun v72_1 =>
  QE I (fun KK => SlC es v60 (some v72_1) none fun v73 =>
  KK v73) fun v73_1 =>
  QE I (fun KK => SlC es v60 (some a1) none fun v76 =>
  KK v76) fun v76_1 =>
  Ex P (Builtin.copy_ #[t, t] tn #[v73_1, v76_1]) fun _ =>
  SlC es v60 (some a1) none fun v80 =>
  Ex P (Builtin.copy_ #[t, t] tn #[v80, a2]) fun _ =>
  KR v60)
  (SlC es v60 (some v19) none fun v86 =>
  Ex P (Builtin.copy_ #[t, t] tn #[v86, a2]) fun _ =>
  SlC es v60 (some a1) none fun v91 =>
  FnV P (.func (.func fr) #[] #[]) #[v91, v14] fun _ =>
  KR v60))))
theorem splice_ins {X news Z J : List Value} (m : Nat) (h : m = X.length) : splice (splice (X ++ J) m news) (m + news.length) Z = if news.length + Z.length ≤ J.length then X ++ news ++ Z ++ J.drop (news.length + Z.length) else splice (splice (X ++ J) m news) (m + news.length) Z := by
  split
  · rename_i hl
    subst h
    rw [splice_eq _ _ (X ++ J) (by rw [List.length_append]; omega), List.take_left, List.drop_append, List.drop_eq_nil_of_le (by omega), List.nil_append, Nat.add_sub_cancel_left]
    rw [splice_eq _ _ _ (by simp only [List.length_append, List.length_drop]; omega)]
    rw [show X.length + news.length = (X ++ news).length from List.length_append.symm, List.take_left, List.drop_append, List.drop_eq_nil_of_le (by omega), List.nil_append, Nat.add_sub_cancel_left, List.drop_drop]
  · rfl
theorem gins_ok {tn fo fr i c1 tb : Nat} {kn : IntKind} (ht : P.underlying t = some (.slice elem)) (htn : P.underlying tn = some (.int kn)) (hi : P.info? elem = some inf) (hes : inf.size = es) (hby : inf.bytes = bytes) (hiz : inf.zero = some z) (hz : z.cells = zero) (hzs : zero.size = es) (he0 : 0 < es)
    (hov : ∀ (a b : Addr) (la ca lb cb : Nat) (w : World), (Extern.SlicesOverlaps.overlaps #[t, t] #[tb] #[.slice (some a) la ca, .slice (some b) lb cb]).run P w = .ok (.bool false) w → (callFunc fo #[.slice (some a) la ca, .slice (some b) lb cb]).run P w = .ok (.value (.bool false)) w)
    (hone : ∀ u ∈ X ++ Z, u.oneCell' = true) (h1 : ∀ u ∈ news, u.oneCell' = true) (hX : X.length = i * es) (hZ : Z.length = (n - i) * es) (hin : i ≤ n) (hnw : news.length = es) (h64 : n ≤ 65536) (hb64 : bytes ≤ 1024)
    (d : D w0 (Rw elem es sv n (X ++ Z) :: cel bs elem news :: L) w) (k : ∀ sv' w', D w0 (Rw elem es sv' (n + 1) (X ++ news ++ Z) :: cel bs elem news :: L) w' → K sv' w') :
    GIns P t tn elem es bytes zero fo fr sv (.int .i64 i) (.slice (some ⟨bs, 0, none⟩) 1 c1) K w := by
  unfold GIns
  obtain ⟨q, c, rfl, hcap⟩ := Rw.shape d.1
  refine slc_ok i n rfl ⟨_, rfl, hin⟩ rfl ?_
  rw [LenS_s, BinI_eql, Cnd_b]
  refine ⟨fun h => by simp at h, fun _ => ?_⟩
  rw [LenS_s, BinI_eql, Cnd_b]
  have hbig : (n + 1) * bytes ≤ 140737488355328 := Nat.le_trans (Nat.mul_le_mul (show n + 1 ≤ 65537 by omega) hb64) (by decide)
  refine ⟨fun h => ?_, fun h => ?_⟩
  · have h := of_decide_eq_true h
    have e : i = n := by omega
    subst e
    have hZ0 : Z = [] := List.length_eq_zero_iff.1 (by rw [hZ]; simp)
    subst hZ0
    simp only [List.append_nil] at d k
    exact d_app (m := 1) d (src_of (gc1 d) (by rw [hnw, Nat.one_mul]) h1 c1) hzs (by omega) hbig (by omega) h1 fun sv' w d => k _ _ d
  · have h := of_decide_eq_false h
    have hlt : i < n := by omega
    obtain ⟨b, cap, junk, e, hcap', hl2, s⟩ := Rw.block d.1 (by omega)
    cases e
    have d1 : D w0 (cel b elem (X ++ Z ++ junk) :: cel bs elem news :: L) w := ⟨s, d.2⟩
    have g := d1.get
    have e1 : IntKind.i64.wrap ((n : Int) + ((1 : Nat) : Int)) = ((n + 1 : Nat) : Int) := by rw [w64 (by omega) (by omega)]; omega
    have e3 : IntKind.i64.wrap ((i : Int) + ((1 : Nat) : Int)) = ((i + 1 : Nat) : Int) := by rw [w64 (by omega) (by omega)]; omega
    have e0 : (if c = 0 then (some ⟨b, 0, none⟩ : Option Addr) else (some ⟨b, 0, none⟩ : Option Addr).map (·.add (0 * es))) = some ⟨b, 0, none⟩ := by
      split
      · rfl
      · simp [add_of]
    have hmul : (i + 1) * es = i * es + es := Nat.succ_mul i es
    have hXZ : X.length + Z.length = n * es := by rw [hX, hZ, ← Nat.add_mul]; congr 1; omega
    have h1Z : ∀ u ∈ Z, u.oneCell' = true := fun u hu => hone u (List.mem_append_right _ hu)
    rw [BinI_add, e1]
    refine cap_ok ht ?_
    rw [BinI_gtr, Cnd_b]
    refine ⟨fun hg => ?_, fun hg => ?_⟩
    · have hg := of_decide_eq_true hg
      have hg : c < n + 1 := by omega
      refine slc_ok 0 i ⟨_, rfl, by omega⟩ rfl rfl ?_
      rw [e0, Nat.sub_zero, Nat.sub_zero, BinI_add, e1, BinI_sub]
      have e2 : IntKind.i64.wrap (((n + 1 : Nat) : Int) - (i : Int)) = ((n + 1 - i : Nat) : Int) := by rw [w64 (by omega) (by omega)]; omega
      rw [e2]
      have hold : (Builtin.firstCells inf.size i (.slice (some ⟨b, 0, none⟩) i c)).run P w.drew = .ok X.toArray w.drew := run_firstCells_some (w := w.drew) inf.size i ⟨b, 0, none⟩ i c X (by rw [hX, hes]) (fun j v hj => by
        rw [add_of, Nat.zero_add]
        have : w.cell? ⟨b, j, none⟩ = some v := by
          rw [cell_of g, List.append_assoc, List.getElem?_append_left (List.getElem?_eq_some_iff.1 hj).1]
          exact hj
        exact this)
      have hfit : Builtin.nextslicecap (i + (n + 1 - i)) c * inf.bytes ≤ 281474976710656 := by rw [hby, show i + (n + 1 - i) = n + 1 from by omega]; exact growslice_fits hg hbig
      have hrun := Lib.run_append_grow_zeros (P := P) w t tn t elem inf z .i64 kn ht htn hi hiz (some ⟨b, 0, none⟩) i c X hold (n + 1 - i) (by omega) (by omega) (by omega) (by omega) (by
        rw [hby]
        exact Nat.le_trans (Nat.mul_le_mul_right bytes (show n + 1 - i ≤ n + 1 by omega)) (Nat.le_trans hbig (by decide))) hfit
      rw [show i + (n + 1 - i) = n + 1 from by omega] at hrun
      have hGn : n + 1 ≤ grownCap w (n + 1) c elem := grownCap_ge w _ _ _
      generalize grownCap w (n + 1) c elem = G at hrun hGn
      refine ⟨_, _, hrun, ?_⟩
      obtain ⟨J, hJ⟩ : ∃ J, J = (Builtin.zeroCells z.cells (n + 1 - i)).toList ++ (Builtin.zeroCells z.cells (G - (n + 1))).toList := ⟨_, rfl⟩
      have hJl : J.length = (G - i) * es := by
        rw [hJ, List.length_append, zeros_len, zeros_len, hz, hzs, ← Nat.add_mul]; congr 1; omega
      have hGi : (G - i) * es = es + (G - (i + 1)) * es := by rw [← Nat.succ_mul (G - (i + 1)) es |>.trans (Nat.add_comm _ _)]; congr 1; omega
      have hZG : Z.length ≤ (G - (i + 1)) * es := by rw [hZ]; exact Nat.mul_le_mul_right _ (by omega)
      have ec : (X.toArray ++ Builtin.zeroCells z.cells (n + 1 - i) ++ Builtin.zeroCells z.cells (G - (n + 1))) = (X ++ J).toArray := by
        apply Array.ext'; simp [hJ]
      rw [ec]
      have d2 : D w0 (cel w.drew.heap.size elem (X ++ J) :: cel b elem (X ++ Z ++ junk) :: cel bs elem news :: L) (w.drew.alloc (.cells (X ++ J).toArray elem)) := by
        refine ⟨?_, (d1.2.trans (Kp.drew w)).trans (Kp.alloc _ _)⟩
        rw [hw_alloc]
        exact Sat.new (hw_none w.drew) d1.1
      have hws : w.heap.size = w.drew.heap.size := rfl
      rw [hws]
      generalize w.drew.heap.size = nb at d2 ⊢
      generalize w.drew.alloc (.cells (X ++ J).toArray elem) = w2 at d2 ⊢
      refine slc_ok i (n + 1) rfl ⟨_, rfl, by omega⟩ rfl ?_
      rw [if_neg (by omega)]
      simp only [Option.map_some, add_of, Nat.zero_add]
      have gs := gc2 d2
      refine cp_ok ht hi d2 (news := news) (by rw [show Nat.min 1 (n + 1 - i) = 1 from by simp only [Nat.min_def]; split <;> omega, Nat.one_mul, hes, hnw]) (fun j v hj => by rw [add_of, cell_of gs, Nat.zero_add]; exact hj) (by rw [List.length_append, hX, hJl, hnw, hGi]; omega) h1 fun _ w3 d3 => ?_
      refine drw d3 fun w4 d4 => ?_
      refine qt d4 ?_
      refine qe_op (fun _ _ => BinI_add) ?_
      rw [e3]
      refine qe _ (fun w' _ => slc_ok (i + 1) (n + 1) rfl ⟨_, rfl, by omega⟩ rfl ⟨rfl, rfl⟩) ?_
      refine qe _ (fun w' _ => slc_ok i n rfl ⟨_, rfl, by omega⟩ rfl ⟨rfl, rfl⟩) ?_
      rw [if_neg (by omega), if_neg (by omega)]
      simp only [Option.map_some, add_of, Nat.zero_add]
      have g4 := gc1 d4
      refine cp_ok ht hi d4 (news := Z) (by rw [show Nat.min (n - i) (n + 1 - (i + 1)) = n - i from by simp only [Nat.min_def]; split <;> omega, hes, hZ]) (fun j v hj => by
        have hj' := (List.getElem?_eq_some_iff.1 hj).1
        rw [add_of, cell_of g4, List.append_assoc, List.getElem?_append_right (by omega), hX, Nat.add_sub_cancel_left, List.getElem?_append_left hj']; exact hj) (by rw [splice_length, List.length_append, hX, hJl, hmul, hGi]; omega) h1Z fun _ w5 d5 => ?_
      have hsp := splice_ins (X := X) (news := news) (Z := Z) (J := J) (i * es) hX.symm
      rw [if_pos (by rw [hnw, hJl, hGi]; omega), hnw] at hsp
      rw [hmul, hsp] at d5
      refine k _ _ ⟨Rw.mk (junk := J.drop (es + Z.length)) d5.tail2.1 hGn ?_ ?_, d5.2⟩
      · rw [List.length_append, List.length_append, hnw, Nat.succ_mul]; omega
      · rw [List.length_append, List.length_append, List.length_append, List.length_drop, hX, hnw, hJl, hGi]
        have : G * es = i * es + (es + (G - (i + 1)) * es) := by rw [← hGi, ← Nat.add_mul]; congr 1; omega
        omega
    · have hg := of_decide_eq_false hg
      have hg : n + 1 ≤ c := by omega
      rw [BinI_add, e1]
      refine slc_ok 0 (n + 1) ⟨_, rfl, by omega⟩ rfl rfl ?_
      rw [e0, Nat.sub_zero, Nat.sub_zero, BinI_add, e3]
      refine slc_ok (i + 1) (n + 1) rfl ⟨_, rfl, by omega⟩ rfl ?_
      rw [if_neg (by omega)]
      simp only [Option.map_some, add_of, Nat.zero_add]
      have gs := gc1 d1
      have hbne : bs ≠ b := (Sat.ne d1.1).symm
      have hnl : (X ++ Z ++ junk).length ≠ 0 := by rw [List.length_append, List.length_append, hXZ]; have : 0 < n * es := Nat.mul_pos (by omega) he0; omega
      have gs' : w.heap[bs]? = some (.cells news.toArray elem (0, 0)) := gs
      have gb' : w.heap[b]? = some (.cells (X ++ Z ++ junk).toArray elem (0, 0)) := g
      have hrun := hov ⟨bs, 0, none⟩ ⟨b, (i + 1) * es, none⟩ 1 c1 (n + 1 - (i + 1)) (c - (i + 1)) w (Lib.run_overlaps_apart (tR := tb) w t elem ht inf.size (run_sizeOf hi) ⟨bs, 0, none⟩ ⟨b, (i + 1) * es, none⟩ 1 c1 (n + 1 - (i + 1)) (c - (i + 1)) hbne elem elem news.toArray.size (X ++ Z ++ junk).toArray.size (by simp [World.shape?, gs']) (by simp [World.shape?, gb']) (by simpa using hnl) (by simp [World.frozen?, gs']) (by simp [World.frozen?, gs']))
      refine .inr ⟨.bool false, w, by simpa using hrun, ?_⟩
      show Un .not (.bool false) _ w
      rw [Un_not, Cnd_b]
      refine ⟨fun _ => ?_, fun h => by simp at h⟩
      refine drw d1 fun w4 d4 => ?_
      refine qt d4 ?_
      refine qe_op (fun _ _ => BinI_add) ?_
      rw [e3]
      refine qe _ (fun w' _ => slc_ok (i + 1) (n + 1) rfl ⟨_, rfl, by omega⟩ rfl ⟨rfl, rfl⟩) ?_
      refine qe _ (fun w' _ => slc_ok i (n + 1) rfl ⟨_, rfl, by omega⟩ rfl ⟨rfl, rfl⟩) ?_
      rw [if_neg (by omega), if_neg (by omega)]
      simp only [Option.map_some, add_of, Nat.zero_add]
      have g4 := d4.get
      have hroom : (n + 1) * es ≤ c * es := Nat.mul_le_mul_right _ hg
      rw [Nat.succ_mul] at hroom
      refine cp_ok ht hi d4 (news := Z) (by rw [show Nat.min (n + 1 - i) (n + 1 - (i + 1)) = n - i from by simp only [Nat.min_def]; split <;> omega, hes, hZ]) (fun j v hj => by
        have hj' := (List.getElem?_eq_some_iff.1 hj).1
        rw [add_of, cell_of g4, List.append_assoc, List.getElem?_append_right (by omega), hX, Nat.add_sub_cancel_left, List.getElem?_append_left hj']; exact hj) (by rw [hl2, hmul]; omega) h1Z fun _ w5 d5 => ?_
      refine slc_ok i (n + 1) rfl ⟨_, rfl, by omega⟩ rfl ?_
      rw [if_neg (by omega)]
      simp only [Option.map_some, add_of, Nat.zero_add]
      have gs5 := gc1 d5
      refine cp_ok ht hi d5 (news := news) (by rw [show Nat.min 1 (n + 1 - i) = 1 from by simp only [Nat.min_def]; split <;> omega, Nat.one_mul, hes, hnw]) (fun j v hj => by rw [add_of, cell_of gs5, Nat.zero_add]; exact hj) (by rw [splice_length, hl2, hnw]; omega) h1 fun _ w6 d6 => ?_
      have hT : (X ++ Z ++ junk).length = c * es := hl2
      have hsp : splice (splice (X ++ Z ++ junk) ((i + 1) * es) Z) (i * es) news = X ++ news ++ Z ++ (X ++ Z ++ junk).drop ((n + 1) * es) := by
        rw [splice_eq _ Z _ (by rw [hT, hmul]; omega)]
        rw [splice_eq _ news _ (by simp only [List.length_append, List.length_take, List.length_drop]; rw [hnw]; simp only [List.length_append] at hT; omega)]
        have ht1 : ((X ++ Z ++ junk).take ((i + 1) * es) ++ Z ++ (X ++ Z ++ junk).drop ((i + 1) * es + Z.length)).take (i * es) = X := by
          rw [List.append_assoc, List.take_append_of_le_length (by rw [List.length_take, hT, hmul]; omega), List.take_take, Nat.min_eq_left (by omega), List.append_assoc, ← hX, List.take_left]
        have ht2 : ((X ++ Z ++ junk).take ((i + 1) * es) ++ Z ++ (X ++ Z ++ junk).drop ((i + 1) * es + Z.length)).drop (i * es + news.length) = Z ++ (X ++ Z ++ junk).drop ((n + 1) * es) := by
          rw [hnw, ← hmul, List.append_assoc, List.drop_append, List.drop_eq_nil_of_le (by rw [List.length_take]; omega), List.nil_append, List.length_take, hT, show (i + 1) * es - min ((i + 1) * es) (c * es) = 0 from by omega, List.drop_zero]
          congr 2
          rw [hZ, ← Nat.add_mul]; congr 1; omega
        rw [ht1, ht2]
        simp only [List.append_assoc]
      rw [hsp] at d6
      refine k _ _ ⟨Rw.mk (junk := (X ++ Z ++ junk).drop ((n + 1) * es)) d6.1 hg ?_ ?_, d6.2⟩
      · rw [List.length_append, List.length_append, hnw, Nat.succ_mul]; omega
      · rw [List.length_append, List.length_append, List.length_append, List.length_drop, hX, hnw, hT, Nat.succ_mul]
        rw [hX] at hXZ
        omega
end
end Go.Jac

namespace Go.Jac
open Go
theorem Sat.perm {A B : List HP} (p : A.Perm B) : ∀ {h : Hp}, Sat A h → Sat B h := by
  induction p with
  | nil => exact fun s => s
  | cons x _ ih => exact fun s => s.under fun _ s => ih s
  | swap x y l => exact fun s => s.swap
  | trans _ _ ih1 ih2 => exact fun s => ih2 (ih1 s)
section
variable {α : Type} {f : α → HP} {M R : List α} {x : α} {w0 w : World} {L A B : List HP}
theorem D.perm (p : A.Perm B) (d : D w0 A w) : D w0 B w := ⟨d.1.perm p, d.2⟩
theorem D.take1 (h : M.Perm (x :: R)) (d : D w0 (sat (M.map f) :: L) w) : D w0 (f x :: sat (R.map f) :: L) w :=
  (D.close (d.opens.perm (((h.map f).append_right L).trans List.perm_middle.symm))).swap
theorem D.put1 (h : M.Perm (x :: R)) (d : D w0 (f x :: sat (R.map f) :: L) w) : D w0 (sat (M.map f) :: L) w :=
  D.close (d.swap.opens.perm (List.perm_middle.trans ((h.map f).append_right L).symm))
theorem D.nil_sat (d : D w0 L w) : D w0 (sat (([] : List α).map f) :: L) w := D.close (M := []) d
end
end Go.Jac

set_option maxRecDepth 100000
namespace Go.Jac
open Go
structure MisOk (Q : Int → Prop) (es : Array MapEntry) (clock since c0 : Nat) (seen : Array Nat) (g : Int → Option Value) (n m : Nat) (cur : Option (Int × Value)) : Prop extends MitOk es clock since c0 seen g n m cur where
  all : ∀ e ∈ es.toList, Q (kI e.key) ∨ seen.contains e.born = false
  inv : ∀ e ∈ es.toList, Q (kI e.key) → seen.contains e.born = true
def Mis (r b : Nat) (g : Int → Option Value) (n m : Nat) (Q : Int → Prop) (cur : Option (Int × Value)) : HP := ex fun (p : (Array MapEntry × Nat) × (Nat × Array Nat × Nat)) =>
  sat [pts r (.mapIter (some b) p.2.1 p.2.2.1 p.2.2.2), pts b (.map p.1.1 p.1.2), pr (MisOk Q p.1.1 p.1.2 p.2.1 p.2.2.2 p.2.2.1 g n m cur)]
section
variable {P : Program} {w0 w : World} {L : List HP} {K : Value → WP} {r b n m : Nat} {g : Int → Option Value} {t kt et : TypeId} {k : Int} {v : Value} {cur : Option (Int × Value)} {Q : Int → Prop}
theorem Mis.out (d : D w0 (Mis r b g n m Q cur :: L) w) : ∃ es clock since seen c0, MisOk Q es clock since c0 seen g n m cur ∧ D w0 (pts r (.mapIter (some b) since seen c0) :: pts b (.map es clock) :: L) w := by
  obtain ⟨p, d⟩ := d.ex
  have d := d.opens
  have h : MisOk Q p.1.1 p.1.2 p.2.1 p.2.2.2 p.2.2.1 g n m cur := (d.pick 2 : D w0 (pr _ :: _) w).1.pr_out
  exact ⟨_, _, _, _, _, h, (d.pick 2 : D w0 (pr _ :: _) w).tail⟩
theorem Mis.mk {es : Array MapEntry} {clock since c0 : Nat} {seen : Array Nat} (h : MisOk Q es clock since c0 seen g n m cur) (d : D w0 (pts r (.mapIter (some b) since seen c0) :: pts b (.map es clock) :: L) w) : D w0 (Mis r b g n m Q cur :: L) w :=
  D.mk_ex (A := fun (p : (Array MapEntry × Nat) × (Nat × Array Nat × Nat)) => sat [pts r (.mapIter (some b) p.2.1 p.2.2.1 p.2.2.2), pts b (.map p.1.1 p.1.2), pr (MisOk Q p.1.1 p.1.2 p.2.1 p.2.2.2 p.2.2.1 g n m cur)]) ((es, clock), (since, seen, c0)) (D.close (M := [_, _, _]) ⟨(Sat.pr_mk h d.1).back 2, d.2⟩)
theorem Mis.map (d : D w0 (Mis r b g n m Q cur :: L) w) : D w0 (Mp b g n :: L) w := by
  obtain ⟨es, clock, since, seen, c0, h, d⟩ := Mis.out d
  exact d.tail.hd fun _ hb => ⟨es, clock, hb, h.map⟩
theorem Mis.left_eq (d : D w0 (Mis r b g n m Q cur :: L) w) : mitLeft r b w = m := by
  obtain ⟨es, clock, since, seen, c0, h, d⟩ := Mis.out d
  have hr : w.heap[r]? = some (.mapIter (some b) since seen c0) := d.1.get
  have hb : w.heap[b]? = some (.map es clock) := d.swap.1.get
  unfold mitLeft
  rw [hr, hb]
  exact h.left
theorem srange_ok (ht : P.underlying t = some (.map kt et)) (d : D w0 (Mp b g n :: L) w) (kk : ∀ r m w', D w0 (Mis r b g n m (fun _ => False) none :: L) w' → K (.pointer (some ⟨r, 0, none⟩)) w') : Ex P (Instr.range t (.map (some b))) K w := by
  obtain ⟨es, clock, hb, hm⟩ := Mp.at_ d
  have d1 : D w0 (pts b (.map es clock) :: L) w := by
    obtain ⟨⟨h1, h2, s, ⟨es1, c1, hb1, ok1⟩, l⟩, kp⟩ := d
    have : hw w b = some (.map es1 c1) := s.l hb1
    have e : w.heap[b]? = some (.map es1 c1) := this
    rw [hb] at e
    obtain ⟨rfl, rfl⟩ : es = es1 ∧ clock = c1 := by injection e with e; injection e with e1 e2; exact ⟨e1, e2⟩
    exact ⟨⟨h1, h2, s, hb1, l⟩, kp⟩
  refine ⟨_, _, run_range_map w t kt et b es clock ht hb, kk _ _ _ (Mis.mk (seen := #[]) ⟨⟨hm, hm.born, Nat.le_refl _, Nat.le_refl _, rfl, by simp⟩, fun e _ => .inr (by simp), fun e _ h => h.elim⟩ ⟨?_, d1.2.trans (Kp.alloc _ _)⟩)⟩
  rw [hw_alloc]
  exact Sat.new (hw_none w) d1.1
theorem born_inj {es : List MapEntry} (h : (es.map (·.born)).Nodup) {x y : MapEntry} (hx : x ∈ es) (hy : y ∈ es) (e : x.born = y.born) : x = y := by
  induction es with
  | nil => cases hx
  | cons z r ih =>
    rw [List.map_cons, List.nodup_cons] at h
    rcases List.mem_cons.1 hx with h1 | h1 <;> rcases List.mem_cons.1 hy with h2 | h2
    · rw [h1, h2]
    · exact absurd (List.mem_map.2 ⟨y, h2, by rw [← h1]; exact e.symm⟩) h.1
    · exact absurd (List.mem_map.2 ⟨x, h1, by rw [← h2]; exact e⟩) h.1
    · exact ih h.2 h1 h2
theorem snextN_ok {ty : TypeId} (d : D w0 (Mis r b g n m Q cur :: L) w) (k0 : (∀ k v, g k = some v → Q k) → ∀ w', D w0 (Mis r b g n m Q none :: L) w' → K (.tuple #[.bool false]) w')
    (k1 : ∀ m' k v w', m' < m → ¬ Q k → g k = some v → D w0 (Mis r b g n m' (fun x => x = k ∨ Q x) (some (k, v)) :: L) w' → K (.tuple #[.bool true, .int .i64 k, v]) w') : Ex P (Instr.next (.pointer (some ⟨r, 0, none⟩)) false ty) K w := by
  obtain ⟨es, clock, since, seen, c0, h, d⟩ := Mis.out d
  have hr : w.heap[r]? = some (.mapIter (some b) since seen c0) := d.1.get
  have hb : w.heap[b]? = some (.map es clock) := d.swap.1.get
  rcases run_next_at (P := P) w ty r b since c0 seen es clock hr hb h.old h.le with ⟨h0, hrun⟩ | ⟨e, he, w1, hw1, hrun⟩
  · refine ⟨_, _, hrun, k0 (fun k v hk => ?_) _ (Mis.mk ⟨⟨h.map, h.old, h.le, h.le2, h.left, by simp⟩, h.all, h.inv⟩ d)⟩
    rw [h.map.get] at hk
    cases hf : es.toList.find? fun e => decide (kI e.key = k) with
    | none => rw [hf] at hk; cases hk
    | some e =>
      have hmem := List.mem_of_find?_eq_some hf
      have hkey : kI e.key = k := by simpa using List.find?_some hf
      rcases h.all e hmem with hq | hq
      · rw [hkey] at hq; exact hq
      · exfalso
        have : e ∈ leftOf es seen := by
          unfold leftOf
          rw [Array.mem_filter]
          exact ⟨by simpa using hmem, by simp only [hq, Bool.not_false]⟩
        have hpos := Array.size_pos_of_mem this
        omega
  · have hmem := mem_left he
    have hkey := h.map.key e hmem.1
    have hg : g (kI e.key) = some e.val := by rw [h.map.get, find_uniq h.map.nd hmem.1]; rfl
    have d1 : D w0 (pts r (.mapIter (some b) since seen c0) :: pts b (.map es clock) :: L) w1 := by
      rcases hw1 with rfl | rfl
      · exact d
      · exact d.drawn
    have d2 := D.put (o' := .mapIter (some b) since (seen.push e.born) clock) d1
    have hlt := left_shrinks es seen e he
    refine ⟨_, _, hrun, ?_⟩
    rw [hkey]
    have huns : seen.contains e.born = false := by
      have h1 : e ∈ leftOf es seen := by simpa using he
      unfold leftOf at h1
      have := (Array.mem_filter.1 h1).2
      simpa using this
    refine k1 _ _ _ _ (by rw [← h.left]; exact hlt) (fun hq => by rw [h.inv e hmem.1 hq] at huns; cases huns) hg (Mis.mk ⟨⟨h.map, h.old, h.le2, h.le2, rfl, ?_⟩, fun x hx => ?_, fun x hx hq => ?_⟩ d2)
    · intro k v hkv
      cases hkv
      exact ⟨e, hmem.1, seen, rfl, hkey, rfl, rfl⟩
    · by_cases hb : x.born = e.born
      · exact .inl (.inl (by rw [born_inj h.map.bnd hx hmem.1 hb]))
      · rcases h.all x hx with hq | hq
        · exact .inl (.inr hq)
        · refine .inr ?_
          rw [Array.contains_push, hq]
          simpa using hb
    · rw [Array.contains_push]
      rcases hq with hq | hq
      · have hx1 := find_uniq h.map.nd hx
        have he1 := find_uniq h.map.nd hmem.1
        rw [hq, he1] at hx1
        rw [Option.some.inj hx1]; simp
      · rw [h.inv x hx hq]; simp
theorem snext_ok {ty : TypeId} (d : D w0 (Mis r b g n m Q cur :: L) w) (k0 : (∀ k v, g k = some v → Q k) → ∀ w', D w0 (Mis r b g n m Q none :: L) w' → K (.tuple #[.bool false]) w')
    (k1 : ∀ m' k v w', m' < m → g k = some v → D w0 (Mis r b g n m' (fun x => x = k ∨ Q x) (some (k, v)) :: L) w' → K (.tuple #[.bool true, .int .i64 k, v]) w') : Ex P (Instr.next (.pointer (some ⟨r, 0, none⟩)) false ty) K w :=
  snextN_ok d k0 fun m' k v w' h1 _ => k1 m' k v w' h1
theorem sentry_ok (d : D w0 (Mis r b g n m Q (some (k, v)) :: L) w) (kk : K (.tuple #[.int .i64 k, v]) w) : Ex P (Instr.entry (.pointer (some ⟨r, 0, none⟩))) K w := by
  obtain ⟨es, clock, since, seen, c0, h, d⟩ := Mis.out d
  obtain ⟨e, he, s, rfl, hk, hv, rfl⟩ := h.now k v rfl
  have hr : w.heap[r]? = some (.mapIter (some b) since (s.push e.born) c0) := d.1.get
  have hb : w.heap[b]? = some (.map es c0) := d.swap.1.get
  refine ⟨_, _, run_entry_at w r b since s es c0 e hr hb he h.map.bnd, ?_⟩
  rw [hk, hv]; exact kk
end
end Go.Jac

set_option maxRecDepth 100000
namespace Go.Jac
open Go
def Rx (elem es : Nat) (v : Value) (n : Nat) (cs : List Value) : HP := fun h =>
  (v = .slice none 0 0 ∧ n = 0 ∧ cs = []) ∨
  ∃ b o cap pre junk, v = .slice (some ⟨b, o, none⟩) n cap ∧ n ≤ cap ∧ cs.length = n * es ∧ pre.length = o ∧ o + cap * es ≤ (pre ++ cs ++ junk).length ∧ h b = some (.cells (pre ++ cs ++ junk).toArray elem (0, 0))
section
variable {P : Program} {w0 w : World} {L : List HP} {K : Value → WP} {elem es bytes n m : Nat} {sv x : Value} {cs news : List Value} {zero : Array Value}
variable {α : Type} {f : α → List Value} {S : List α}
theorem Rx.of (d : D w0 (Rw elem es sv n cs :: L) w) : D w0 (Rx elem es sv n cs :: L) w :=
  d.hd fun h hr => by
    rcases hr with ⟨rfl, rfl, rfl⟩ | ⟨b, cap, junk, rfl, hle, hl, hl2, hb⟩
    · exact .inl ⟨rfl, rfl, rfl⟩
    · exact .inr ⟨b, 0, cap, [], junk, rfl, hle, hl, rfl, by simp only [List.nil_append]; omega, by simpa using hb⟩
theorem Rx.shape (d : D w0 (Rx elem es sv n cs :: L) w) : ∃ q c, sv = .slice q n c ∧ n ≤ c := by
  obtain ⟨⟨h1, h2, s, hr, l⟩, _⟩ := d
  rcases hr with ⟨rfl, rfl, rfl⟩ | ⟨b, o, cap, pre, junk, rfl, hle, _⟩
  · exact ⟨_, _, rfl, Nat.le_refl _⟩
  · exact ⟨_, _, rfl, hle⟩
/-- The first element, of one cell. -/
theorem rx_hd {v : Value} {r : List Value} (d : D w0 (Rx elem 1 sv (n + 1) (v :: r) :: L) w) (k : K v w) : IA 1 sv (.int .i64 0) (fun p => Ld1 p fun u => K u) w := by
  obtain ⟨⟨h1, h2, s, hr, l⟩, _⟩ := d
  rcases hr with ⟨_, h0, _⟩ | ⟨b, o, cap, pre, junk, rfl, hle, hl, ho, hc, hb⟩
  · omega
  · refine ia_ok (by omega) (by omega) ?_
    have g : hw w b = some (.cells (pre ++ (v :: r) ++ junk).toArray elem (0, 0)) := s.l hb
    refine ld1 g ?_ k
    show (pre ++ (v :: r) ++ junk)[o + 0 * 1]? = _
    rw [List.append_assoc, List.getElem?_append_right (by omega), show o + 0 * 1 - pre.length = 0 by omega]
    rfl
/-- All but the first. -/
theorem rx_tail {v : Value} {r : List Value} (d : D w0 (Rx elem 1 sv (n + 1) (v :: r) :: L) w) (k : ∀ sv', D w0 (Rx elem 1 sv' n r :: L) w → K sv' w) : SlC 1 sv (some (.int .i64 1)) none K w := by
  obtain ⟨⟨h1, h2, s, hr, l⟩, kp⟩ := d
  rcases hr with ⟨_, h0, _⟩ | ⟨b, o, cap, pre, junk, rfl, hle, hl, ho, hc, hb⟩
  · omega
  · refine slc_ok 1 (n + 1) rfl ⟨_, rfl, by omega⟩ rfl ?_
    refine k _ ⟨⟨h1, h2, s, .inr ?_, l⟩, kp⟩
    have hrl : r.length = n := by simpa using hl
    by_cases e : cap = 1
    · have hn : n = 0 := by omega
      subst hn
      have hr0 : r = [] := List.length_eq_zero_iff.1 hrl
      subst hr0
      rw [if_pos e]
      exact ⟨b, o, cap - 1, pre, [v] ++ junk, by simp, by omega, by simp, ho, by simp at hc ⊢; omega, by simpa using hb⟩
    · rw [if_neg e]
      refine ⟨b, o + 1, cap - 1, pre ++ [v], junk, ?_, by omega, by omega, by simp [ho], by simp at hc ⊢; omega, by simpa using hb⟩
      simp [add_of]
theorem rx_app (d : D w0 (Rx elem es sv n cs :: L) w) (hx : SrcV es x m news w) (hz : zero.size = es) (hm : 0 < m) (hb : (n + m) * bytes ≤ 140737488355328) (h63 : n + m < 4611686018427387904)
    (hx2 : ∀ v ∈ news, v.oneCell' = true)
    (k : ∀ sv' w', D w0 (Rx elem es sv' (n + m) (cs ++ news) :: L) w' → K sv' w') : AppC elem es bytes zero sv x K w := by
  have hnl : news.length = m * es := by
    rcases hx with ⟨a, c, rfl, hl, hc, h1⟩ | ⟨c, rfl, rfl, rfl⟩
    · exact hl
    · omega
  obtain ⟨⟨h1, h2, s1, hr, l⟩, kp⟩ := d
  rcases hr with ⟨rfl, rfl, rfl⟩ | ⟨b, o, cap, pre, junk, rfl, hle, hl, ho, hc, hbk⟩
  · have d0 : D w0 (Rw elem es (.slice none 0 0) 0 [] :: L) w := ⟨⟨h1, h2, s1, .inl ⟨rfl, rfl, rfl⟩, l⟩, kp⟩
    exact d_app d0 hx hz hm hb h63 hx2 fun sv' w' d' => k sv' w' (Rx.of d')
  · have g : hw w b = some (.cells (pre ++ cs ++ junk).toArray elem (0, 0)) := s1.l hbk
    by_cases hroom : n + m ≤ cap
    · have hcap : (n + m) * es ≤ cap * es := Nat.mul_le_mul_right _ hroom
      have hfit : o + n * es + news.length ≤ (pre ++ cs ++ junk).length := by
        rw [hnl]; rw [Nat.add_mul] at hcap; omega
      refine ⟨_, n, cap, m, news, rfl, hx, .inr (.inl ⟨b, o, rfl, hroom, fun j hj => ?_, fun j hj => free_of g _, k _ _ ⟨?_, kp.trans (Kp.setCells _ _ _ _)⟩⟩)⟩
      · rw [cell_of g, List.getElem?_eq_getElem (by omega)]; rfl
      · rw [hw_setCells news (pre ++ cs ++ junk) _ w g]
        have e : splice (pre ++ cs ++ junk) (o + n * es) news = pre ++ (cs ++ news) ++ junk.drop news.length := by
          have hpl : (pre ++ cs).length = o + n * es := by rw [List.length_append, ho, hl]
          rw [splice_eq _ _ _ hfit, ← hpl, List.take_left, List.drop_append]
          simp
        have s2 : Sat (cel b elem (splice (pre ++ cs ++ junk) (o + n * es) news) :: L) ((hw w).set b (.cells (splice (pre ++ cs ++ junk) (o + n * es) news).toArray elem (0, 0))) := Sat.set (o := .cells (pre ++ cs ++ junk).toArray elem (0, 0)) ⟨h1, h2, s1, hbk, l⟩
        have hlen : (splice (pre ++ cs ++ junk) (o + n * es) news).length = (pre ++ cs ++ junk).length := splice_length _ _ _
        rw [e] at s2 hlen ⊢
        refine s2.hd fun _ a => .inr ⟨b, o, cap, pre, junk.drop news.length, rfl, hroom, ?_, ho, by rw [hlen]; exact hc, a⟩
        rw [List.length_append, hl, hnl, Nat.add_mul]
    · refine ⟨_, n, cap, m, news, rfl, hx, .inr (.inr ⟨cs, .some _ rfl hl fun j u hu => ?_, by omega, by omega, growslice_fits (by omega) hb, fun c hc => k _ _ ⟨?_, kp.trans ((Kp.drew w).trans (Kp.alloc _ _))⟩⟩)⟩
      · have hj := (List.getElem?_eq_some_iff.1 hu).1
        rw [add_of, cell_of g, List.append_assoc, List.getElem?_append_right (by omega), show o + j - pre.length = j by omega, List.getElem?_append_left hj]; exact hu
      · have e : ((cs ++ news).toArray ++ Builtin.zeroCells zero (c - (n + m))) = ((cs ++ news) ++ (Builtin.zeroCells zero (c - (n + m))).toList).toArray := by
          apply Array.ext'; simp
        rw [e, hw_alloc]
        have s : Sat (pr True :: L) (hw w) := ⟨h1, h2, s1, trivial, l⟩
        have s' : Sat (cel w.drew.heap.size elem ((cs ++ news) ++ (Builtin.zeroCells zero (c - (n + m))).toList) :: pr True :: L) ((hw w.drew).set w.drew.heap.size (.cells ((cs ++ news) ++ (Builtin.zeroCells zero (c - (n + m))).toList).toArray elem)) := Sat.new (hw_none w.drew) s
        refine Sat.tail2 (s'.hd fun _ a => .inr ⟨_, 0, c, [], (Builtin.zeroCells zero (c - (n + m))).toList, rfl, hc, ?_, rfl, ?_, by rw [List.nil_append]; exact a⟩)
        · rw [List.length_append, hl, hnl, Nat.add_mul]
        · simp only [List.nil_append, List.length_append, hl, hnl, Array.length_toList, size_zeroCells, hz]
          rw [← Nat.add_mul, ← Nat.add_mul, Nat.zero_add]
          exact Nat.mul_le_mul_right _ (by omega)
end
end Go.Jac

set_option maxRecDepth 100000
namespace Go.Jac
open Go Go.Proofs Go.Sort Go.Shelf
theorem Sat.ext2 : ∀ {L : List HP} {h h' : Hp}, Sat L h → (∀ b o, h b = some o → h' b = some o) → Sat L h'
  | [], _, _, _, _ => trivial
  | A :: L, h, h', s, g => by
    obtain ⟨h1, h2, s1, a, l⟩ := s
    refine ⟨h1, fun b => if (h1 b).isSome then none else h' b, fun b => ?_, a, Sat.ext2 l fun b o hb => ?_⟩
    · cases hb : h1 b with
      | none => left; simp [hb]
      | some o => right; exact ⟨by simp [hb], g b o (s1.l hb)⟩
    · have : h1 b = none := s1.comm.off hb
      simp only [this, Option.isSome_none, Bool.false_eq_true, if_false]
      exact g b o (s1.r hb)
def nI (x : Int) : List Value := [.int .i64 x]
theorem nI_len (x : Int) : (nI x).length = 1 := rfl
theorem nI_map (l : List Int) : l.flatMap nI = l.map (Value.int .i64) := by
  induction l with
  | nil => rfl
  | cons a r ih => rw [List.flatMap_cons, ih]; rfl
theorem nI_one (l : List Int) : ∀ u ∈ l.flatMap nI, u.oneCell' = true := by
  intro u hu
  rw [nI_map] at hu
  obtain ⟨x, _, rfl⟩ := List.mem_map.1 hu
  rfl
/-- The numbers by size. -/
def srt (S : List Int) : List Int := S.mergeSort fun x y => decide (x ≤ y)
theorem srt_perm (S : List Int) : (srt S).Perm S := List.mergeSort_perm S _
theorem srt_len (S : List Int) : (srt S).length = S.length := (srt_perm S).length_eq
theorem srt_mem {S : List Int} {x : Int} : x ∈ srt S ↔ x ∈ S := (srt_perm S).mem_iff
theorem srt_up (S : List Int) : (srt S).Pairwise (· ≤ ·) := by
  have h := List.pairwise_mergeSort (le := fun x y => decide (x ≤ y)) (fun a b c h1 h2 => by simp only [decide_eq_true_eq] at *; omega) (fun a b => by simp only [Bool.or_eq_true, decide_eq_true_eq]; omega) S
  exact h.imp fun h => by simpa using h
theorem nodup_len {α : Type} [DecidableEq α] : ∀ {A B : List α}, A.Nodup → (∀ x ∈ A, x ∈ B) → A.length ≤ B.length
  | [], _, _, _ => Nat.zero_le _
  | x :: A, B, h, hs => by
    rw [List.nodup_cons] at h
    have hx := hs x (by simp)
    have := nodup_len (A := A) (B := B.erase x) h.2 fun y hy => (List.mem_erase_of_ne (fun e : y = x => h.1 (e ▸ hy))).2 (hs y (by simp [hy]))
    rw [List.length_erase_of_mem hx] at this
    have : 0 < B.length := List.length_pos_of_mem hx
    simp only [List.length_cons]; omega
section
variable {P : Program} {ρ : Ren} {w0 w : World} {L : List HP} {K : Value → WP} {elem : Nat} {sv : Value} {S : List Int}
theorem mp_card {b n : Nat} {g : Int → Option Value} (d : D w0 (Mp b g n :: L) w) (hn : S.Nodup) (hs : ∀ x ∈ S, (g x).isSome = true) : S.length ≤ n := by
  obtain ⟨es, clock, _, ok⟩ := Mp.at_ d
  have := nodup_len (B := es.toList.map fun e => kI e.key) hn fun x hx => by
    obtain ⟨e, he, hk⟩ := (mo_get ok).1 (hs x hx)
    exact List.mem_map.2 ⟨e, he, hk⟩
  rw [List.length_map, ok.len] at this
  exact this
theorem isort_k (Ly : SlLaysN.n53 P ρ) (hsz : S.length < 4611686018427387904) (d : D w0 (Rw elem 1 sv S.length (S.flatMap nI) :: L) w)
    (k : ∀ w', D w0 (Rw elem 1 sv (srt S).length ((srt S).flatMap nI) :: L) w' → K (.tuple #[]) w') : Cl P (ρ.f 53) #[sv] K w := by
  rcases Nat.eq_zero_or_pos S.length with hz | hp
  · obtain ⟨p, c, rfl, -⟩ := Rw.shape d.1
    have hS : S = [] := List.eq_nil_of_length_eq_zero hz
    subst hS
    refine (AnyG.slices_Sort_int_none Ly p c w).mono ?_
    rintro e w' ⟨rfl, rfl⟩
    refine ⟨_, rfl, k _ ?_⟩
    have e : srt [] = [] := List.eq_nil_of_length_eq_zero (srt_len [])
    rw [e]
    exact d
  · obtain ⟨b, cap, junk, rfl, hle, hl2, s⟩ := Rw.block d.1 hp
    have gb : hw w b = some (.cells (S.flatMap nI ++ junk).toArray elem (0, 0)) := s.get
    have hb : b < w.heap.size := (Array.getElem?_eq_some_iff.1 gb).1
    have hH : Holds (Value.int .i64) w b 0 S.toArray := by
      intro j hj
      have hj' : j < S.length := by simpa using hj
      refine ⟨(cell_of gb _).trans ?_, free_of gb _⟩
      rw [Nat.zero_add, nI_map, List.getElem?_append_left (by simpa using hj'), List.getElem?_map, List.getElem?_eq_getElem hj', Option.map_some, getElem!_pos S.toArray j hj]
      rfl
    refine (AnyG.slices_Sort_int Ly b 0 cap S w hH hb hsz).mono ?_
    rintro e w' ⟨rfl, n, os, rfl⟩
    refine ⟨_, rfl, k _ ?_⟩
    have hn := srt_len S
    have ho : putCells (Value.int .i64) 0 (srt S).toArray (S.flatMap nI ++ junk).toArray = ((srt S).flatMap nI ++ junk).toArray := by
      apply Array.ext_getElem?
      intro j
      unfold putCells
      rw [Array.getElem?_mapIdx, List.getElem?_toArray, List.getElem?_toArray, List.size_toArray, nI_map, nI_map]
      by_cases hj : j < (srt S).length
      · rw [List.getElem?_append_left (by rw [List.length_map]; omega), List.getElem?_append_left (by rw [List.length_map]; omega), List.getElem?_map, List.getElem?_map, List.getElem?_eq_getElem (by omega), List.getElem?_eq_getElem hj]
        simp only [Option.map_some]
        rw [if_pos ⟨by omega, by omega⟩, Nat.sub_zero, getElem!_pos (srt S).toArray j (by simpa using hj)]
        simp
      · rw [List.getElem?_append_right (by rw [List.length_map]; omega), List.getElem?_append_right (by rw [List.length_map]; omega), List.length_map, List.length_map, hn]
        cases hx : junk[j - S.length]? with
        | none => rfl
        | some x =>
          simp only [Option.map_some, Option.some.injEq, List.size_toArray]
          rw [if_neg (by omega)]
    have hset : ∀ b' o, Hp.set (hw w) b (.cells ((srt S).flatMap nI ++ junk).toArray elem (0, 0)) b' = some o → hw (grow (putRow (Value.int .i64) (Sort.ahead w n) b 0 (srt S).toArray) os) b' = some o := by
      intro b' o hbo
      have hlt : b' < w.heap.size := by
        unfold Hp.set at hbo
        split at hbo
        · rename_i e; rw [e]; exact hb
        · exact (Array.getElem?_eq_some_iff.1 hbo).1
      show ((w.heap.modify b (onCells (putCells (Value.int .i64) 0 (srt S).toArray))) ++ os)[b']? = some o
      rw [Array.getElem?_append_left (by rw [Array.size_modify]; exact hlt), Array.getElem?_modify]
      unfold Hp.set at hbo
      split at hbo
      · rename_i e
        subst e
        have gb' : w.heap[b']? = some (.cells (S.flatMap nI ++ junk).toArray elem (0, 0)) := gb
        rw [if_pos rfl, gb', Option.map_some, ← hbo, onCells, ho]
      · rename_i e
        rw [if_neg fun h => e h.symm]
        exact hbo
    have kp : Kp w (grow (putRow (Value.int .i64) (Sort.ahead w n) b 0 (srt S).toArray) os) := ⟨rfl, rfl, rfl, by show w.heap.size ≤ ((w.heap.modify b (onCells (putCells (Value.int .i64) 0 (srt S).toArray))) ++ os).size; simp, Nat.le_add_right _ _⟩
    have hf1 : ((srt S).flatMap nI).length = (srt S).length * 1 := by rw [nI_map, List.length_map, Nat.mul_one]
    refine ⟨?_, d.2.trans kp⟩
    have s' := Sat.ext2 (s.set (o' := .cells ((srt S).flatMap nI ++ junk).toArray elem (0, 0))) hset
    have hr := Rw.mk (n := (srt S).length) (es := 1) (cap := cap) s' (by omega) hf1 (by rw [← hl2, nI_map, nI_map]; simp [hn])
    rw [hn] at hr ⊢
    exact hr
end
end Go.Jac

set_option maxRecDepth 100000
set_option maxHeartbeats 4000000
namespace Go.Proofs.Ytgkbbihaaichbaa
open Go Go.Jac Go.Shelf
def iRen : Ren := ⟨fun | 53 => 64 | 64 => 89 | 63 => 88 | 78 => 104 | 79 => 105 | 70 => 95 | 71 => 96 | 72 => 97 | 73 => 98 | 74 => 99 | 75 => 100 | 59 => 101 | 76 => 102 | 77 => 103 | 88 => 115 | 89 => 116 | 90 => 117 | 91 => 118 | 92 => 119 | 68 => 74 | 96 => 123 | n => n, fun | 22 => 22 | 23 => 3 | 3 => 3 | 51 => 128 | 0 => 0 | 67 => 153 | 69 => 155 | 4 => 4 | 61 => 147 | 60 => 146 | 44 => 79 | 5 => 5 | 9 => 9 | 75 => 162 | 79 => 166 | 83 => 170 | 84 => 171 | n => n, fun n => n⟩
theorem iLay : SlLaysN.n53 Try.prog iRen where
  mixed := by kernel_rfl
  f53 := ⟨"slices.Sort[[]int,int]", by decide, Try.func64.trans (congrArg some (by kernel_rfl))⟩
  f59 := ⟨"cmp.Less[int]", by decide, Try.func101.trans (congrArg some (by kernel_rfl))⟩
  f63 := ⟨"slices.pdqsortOrdered[int]", by decide, Try.func88.trans (congrArg some (by kernel_rfl))⟩
  f64 := Try.func89.trans (congrArg some (by kernel_rfl))
  f68 := ⟨"cmp.isNaN[int]", by decide, Try.func74.trans (congrArg some (by kernel_rfl))⟩
  f70 := ⟨"slices.insertionSortOrdered[int]", by decide, Try.func95.trans (congrArg some (by kernel_rfl))⟩
  f71 := ⟨"slices.heapSortOrdered[int]", by decide, Try.func96.trans (congrArg some (by kernel_rfl))⟩
  f72 := ⟨"slices.breakPatternsOrdered[int]", by decide, Try.func97.trans (congrArg some (by kernel_rfl))⟩
  f73 := ⟨"slices.choosePivotOrdered[int]", by decide, Try.func98.trans (congrArg some (by kernel_rfl))⟩
  f74 := ⟨"slices.reverseRangeOrdered[int]", by decide, Try.func99.trans (congrArg some (by kernel_rfl))⟩
  f75 := ⟨"slices.partialInsertionSortOrdered[int]", by decide, Try.func100.trans (congrArg some (by kernel_rfl))⟩
  f76 := ⟨"slices.partitionEqualOrdered[int]", by decide, Try.func102.trans (congrArg some (by kernel_rfl))⟩
  f77 := ⟨"slices.partitionOrdered[int]", by decide, Try.func103.trans (congrArg some (by kernel_rfl))⟩
  f78 := Try.func104.trans (congrArg some (by kernel_rfl))
  f79 := Try.func105.trans (congrArg some (by kernel_rfl))
  f88 := ⟨"slices.siftDownOrdered[int]", by decide, Try.func115.trans (congrArg some (by kernel_rfl))⟩
  f89 := Try.func116.trans (congrArg some (by kernel_rfl))
  f90 := Try.func117.trans (congrArg some (by kernel_rfl))
  f91 := ⟨"slices.medianAdjacentOrdered[int]", by decide, Try.func118.trans (congrArg some (by kernel_rfl))⟩
  f92 := ⟨"slices.medianOrdered[int]", by decide, Try.func119.trans (congrArg some (by kernel_rfl))⟩
  f96 := ⟨"slices.order2Ordered[int]", by decide, Try.func123.trans (congrArg some (by kernel_rfl))⟩
  t0 := Try.underlying0
  a0 := Try.isAgg0
  z0 := Try.sizeOf0
  v0 := Try.zeroValue0
  t3 := Try.underlying3
  a3 := Try.isAgg3
  z3 := Try.sizeOf3
  v3 := Try.zeroValue3
  t4 := Try.underlying4
  a4 := Try.isAgg4
  z4 := Try.sizeOf4
  v4 := Try.zeroValue4
  t5 := Try.underlying5
  a5 := Try.isAgg5
  z5 := Try.sizeOf5
  v5 := Try.zeroValue5
  t9 := Try.underlying9
  a9 := Try.isAgg9
  z9 := Try.sizeOf9
  v9 := Try.zeroValue9
  t22 := Try.underlying22
  a22 := Try.isAgg22
  z22 := Try.sizeOf22
  v22 := Try.zeroValue22
  t23 := Try.underlying3
  a23 := Try.isAgg3
  z23 := Try.sizeOf3
  v23 := Try.zeroValue3
  t44 := Try.underlying79
  a44 := Try.isAgg79
  z44 := Try.sizeOf79
  v44 := Try.zeroValue79
  t51 := Try.underlying128
  a51 := Try.isAgg128
  z51 := Try.sizeOf128
  v51 := Try.zeroValue128
  t60 := Try.underlying146
  a60 := Try.isAgg146
  z60 := Try.sizeOf146
  v60 := Try.zeroValue146
  t61 := Try.underlying147
  a61 := Try.isAgg147
  z61 := Try.sizeOf147
  v61 := Try.zeroValue147
  t67 := Try.underlying153
  a67 := Try.isAgg153
  z67 := Try.sizeOf153
  v67 := Try.zeroValue153
  t69 := Try.underlying155
  a69 := Try.isAgg155
  z69 := Try.sizeOf155
  v69 := Try.zeroValue155
  t75 := Try.underlying162
  a75 := Try.isAgg162
  z75 := Try.sizeOf162
  v75 := Try.zeroValue162
  t79 := Try.underlying166
  a79 := Try.isAgg166
  z79 := Try.sizeOf166
  v79 := Try.zeroValue166
  t83 := Try.underlying170
  a83 := Try.isAgg170
  z83 := Try.sizeOf170
  v83 := Try.zeroValue170
  t84 := Try.underlying171
  a84 := Try.isAgg171
  z84 := Try.sizeOf171
  v84 := Try.zeroValue171
theorem iRoot : iRen.f 53 = 64 := rfl
end Go.Proofs.Ytgkbbihaaichbaa

set_option maxRecDepth 100000
namespace Go.Proofs.Ytgkbbihaaichbaa
open Go Go.Jac
theorem rd44 {w : World} {cs : List Value} (h : Rd Try.prog w 44 cs) : ∃ (x0 : Int) (x1 : Int) (x2 : Int) (x3 : Int), cs = [(.int .i64 x0), (.int .i64 x1), (.int .i64 x2), (.int .i64 x3)] ∧ (Lit.int .i64 x0).wf = true ∧ (Lit.int .i64 x1).wf = true ∧ (Lit.int .i64 x2).wf = true ∧ (Lit.int .i64 x3).wf = true := by
  obtain ⟨hl, hf⟩ := Rd.struct Try.underlying44 h
  rw [show Try.prog.cellsOf 44 = 4 from by kernel_rfl] at hl
  obtain ⟨c0, c1, c2, c3, rfl⟩ : ∃ c0 c1 c2 c3, cs = [c0, c1, c2, c3] := by
    match cs, hl with
    | [c0, c1, c2, c3], _ => exact ⟨_, _, _, _, rfl⟩
  have f0 : Rd Try.prog w 3 [c0] := by
    have g : Rd Try.prog w 3 (([c0, c1, c2, c3].drop 0).take (Try.prog.cellsOf 3)) := hf 0 _ rfl
    rw [show Try.prog.cellsOf 3 = 1 from by kernel_rfl] at g
    exact g
  have f1 : Rd Try.prog w 3 [c1] := by
    have g : Rd Try.prog w 3 (([c0, c1, c2, c3].drop 1).take (Try.prog.cellsOf 3)) := hf 1 _ rfl
    rw [show Try.prog.cellsOf 3 = 1 from by kernel_rfl] at g
    exact g
  have f2 : Rd Try.prog w 3 [c2] := by
    have g : Rd Try.prog w 3 (([c0, c1, c2, c3].drop 2).take (Try.prog.cellsOf 3)) := hf 2 _ rfl
    rw [show Try.prog.cellsOf 3 = 1 from by kernel_rfl] at g
    exact g
  have f3 : Rd Try.prog w 3 [c3] := by
    have g : Rd Try.prog w 3 (([c0, c1, c2, c3].drop 3).take (Try.prog.cellsOf 3)) := hf 3 _ rfl
    rw [show Try.prog.cellsOf 3 = 1 from by kernel_rfl] at g
    exact g
  obtain ⟨y0, e0, h0⟩ := Rd.int Try.underlying3 f0
  cases e0
  obtain ⟨y1, e1, h1⟩ := Rd.int Try.underlying3 f1
  cases e1
  obtain ⟨y2, e2, h2⟩ := Rd.int Try.underlying3 f2
  cases e2
  obtain ⟨y3, e3, h3⟩ := Rd.int Try.underlying3 f3
  cases e3
  exact ⟨_, _, _, _, rfl, h0, h1, h2, h3⟩
theorem rd72 {w : World} {cs : List Value} (h : Rd Try.prog w 72 cs) : ∃ (x0 : Int) (x1 : Int) (x2 : Int) (x3 : Int) (x4 : Int), cs = [(.int .i64 x0), (.int .i64 x1), (.int .i64 x2), (.int .i64 x3), (.int .i64 x4)] ∧ (Lit.int .i64 x0).wf = true ∧ (Lit.int .i64 x1).wf = true ∧ (Lit.int .i64 x2).wf = true ∧ (Lit.int .i64 x3).wf = true ∧ (Lit.int .i64 x4).wf = true := by
  obtain ⟨hl, hf⟩ := Rd.struct Try.underlying72 h
  rw [show Try.prog.cellsOf 72 = 5 from by kernel_rfl] at hl
  obtain ⟨c0, c1, c2, c3, c4, rfl⟩ : ∃ c0 c1 c2 c3 c4, cs = [c0, c1, c2, c3, c4] := by
    match cs, hl with
    | [c0, c1, c2, c3, c4], _ => exact ⟨_, _, _, _, _, rfl⟩
  have f0 : Rd Try.prog w 3 [c0] := by
    have g : Rd Try.prog w 3 (([c0, c1, c2, c3, c4].drop 0).take (Try.prog.cellsOf 3)) := hf 0 _ rfl
    rw [show Try.prog.cellsOf 3 = 1 from by kernel_rfl] at g
    exact g
  have f1 : Rd Try.prog w 3 [c1] := by
    have g : Rd Try.prog w 3 (([c0, c1, c2, c3, c4].drop 1).take (Try.prog.cellsOf 3)) := hf 1 _ rfl
    rw [show Try.prog.cellsOf 3 = 1 from by kernel_rfl] at g
    exact g
  have f2 : Rd Try.prog w 3 [c2] := by
    have g : Rd Try.prog w 3 (([c0, c1, c2, c3, c4].drop 2).take (Try.prog.cellsOf 3)) := hf 2 _ rfl
    rw [show Try.prog.cellsOf 3 = 1 from by kernel_rfl] at g
    exact g
  have f3 : Rd Try.prog w 3 [c3] := by
    have g : Rd Try.prog w 3 (([c0, c1, c2, c3, c4].drop 3).take (Try.prog.cellsOf 3)) := hf 3 _ rfl
    rw [show Try.prog.cellsOf 3 = 1 from by kernel_rfl] at g
    exact g
  have f4 : Rd Try.prog w 3 [c4] := by
    have g : Rd Try.prog w 3 (([c0, c1, c2, c3, c4].drop 4).take (Try.prog.cellsOf 3)) := hf 4 _ rfl
    rw [show Try.prog.cellsOf 3 = 1 from by kernel_rfl] at g
    exact g
  obtain ⟨y0, e0, h0⟩ := Rd.int Try.underlying3 f0
  cases e0
  obtain ⟨y1, e1, h1⟩ := Rd.int Try.underlying3 f1
  cases e1
  obtain ⟨y2, e2, h2⟩ := Rd.int Try.underlying3 f2
  cases e2
  obtain ⟨y3, e3, h3⟩ := Rd.int Try.underlying3 f3
  cases e3
  obtain ⟨y4, e4, h4⟩ := Rd.int Try.underlying3 f4
  cases e4
  exact ⟨_, _, _, _, _, rfl, h0, h1, h2, h3, h4⟩
end Go.Proofs.Ytgkbbihaaichbaa
