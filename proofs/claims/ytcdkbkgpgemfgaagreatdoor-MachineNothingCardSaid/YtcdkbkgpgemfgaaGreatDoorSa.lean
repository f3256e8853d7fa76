/- Memory in parts that do not touch: what the combinators do to them. -/
import Derived.Test.YtcdkbkgpgemfgaaGreatDoorBj
import Derived.IntWalk
import Derived.Below
import Derived.RowKit3
namespace Go.Jac
open Go

abbrev Hp := Nat → Option Obj
abbrev HP := Hp → Prop
def hw (w : World) : Hp := fun b => w.heap[b]?
def Split (h h1 h2 : Hp) : Prop := ∀ b, (h1 b = none ∧ h b = h2 b) ∨ (h2 b = none ∧ h b = h1 b)
def Sat : List HP → Hp → Prop
  | [], _ => True
  | A :: L, h => ∃ h1 h2, Split h h1 h2 ∧ A h1 ∧ Sat L h2
def pts (b : Nat) (o : Obj) : HP := fun h => h b = some o
def cel (b : Nat) (t : TypeId) (cs : List Value) : HP := pts b (.cells cs.toArray t (0, 0))
def ex {α : Type} (A : α → HP) : HP := fun h => ∃ x, A x h
def pr (p : Prop) : HP := fun _ => p
def sat (L : List HP) : HP := Sat L
def Hp.set (h : Hp) (b : Nat) (o : Obj) : Hp := fun i => if i = b then some o else h i
def hE : Hp := fun _ => none

theorem Split.comm {h h1 h2 : Hp} (s : Split h h1 h2) : Split h h2 h1 := fun b => (s b).symm
theorem Split.right (h : Hp) : Split h hE h := fun _ => .inl ⟨rfl, rfl⟩
theorem Split.l {h h1 h2 : Hp} (s : Split h h1 h2) {b : Nat} {o : Obj} (g : h1 b = some o) : h b = some o := by
  rcases s b with ⟨h0, _⟩ | ⟨_, e⟩
  · rw [h0] at g; cases g
  · rw [e]; exact g
theorem Split.r {h h1 h2 : Hp} (s : Split h h1 h2) {b : Nat} {o : Obj} (g : h2 b = some o) : h b = some o := s.comm.l g
theorem Split.off {h h1 h2 : Hp} (s : Split h h1 h2) {b : Nat} {o : Obj} (g : h1 b = some o) : h2 b = none := by
  rcases s b with ⟨h0, _⟩ | ⟨e, _⟩
  · rw [h0] at g; cases g
  · exact e
def orH (h1 h2 : Hp) : Hp := fun b => (h1 b).or (h2 b)
/-- (a · (b · c)) as ((a · b) · c). -/
theorem Split.join {h a r b c : Hp} (s : Split h a r) (t : Split r b c) : Split h (orH a b) c ∧ Split (orH a b) a b := by
  refine ⟨fun i => ?_, fun i => ?_⟩
  · rcases s i with ⟨e1, e⟩ | ⟨e1, e⟩
    · rcases t i with ⟨f1, f⟩ | ⟨f1, f⟩
      · left; simp [orH, e1, f1, e, f]
      · right; simp [orH, e1, f1, e, f]
    · have hb : b i = none := by
        rcases t i with ⟨f1, _⟩ | ⟨_, f⟩
        · exact f1
        · rw [← f]; exact e1
      have hc : c i = none := by
        rcases t i with ⟨_, f⟩ | ⟨f1, _⟩
        · rw [← f]; exact e1
        · exact f1
      right; simp [orH, hb, hc, e]
  · cases ha : a i with
    | none => left; simp [orH, ha]
    | some o =>
      right
      have hr := s.off ha
      have hb : b i = none := by
        rcases t i with ⟨f1, _⟩ | ⟨_, f⟩
        · exact f1
        · rw [← f]; exact hr
      simp [orH, ha, hb]
/-- (a · (b · c)) as (b · (a · c)). -/
theorem Split.assoc {h h1 h2 h3 h4 : Hp} (s : Split h h1 h2) (t : Split h2 h3 h4) : ∃ h', Split h h3 h' ∧ Split h' h1 h4 := by
  obtain ⟨x, y⟩ := s.join t.comm
  exact ⟨_, x.comm, y⟩
theorem orH_l {h1 h2 : Hp} {b : Nat} {o : Obj} (g : h1 b = some o) : orH h1 h2 b = some o := by simp [orH, g]

theorem Sat.swap {A B : HP} {L : List HP} {h : Hp} (s : Sat (A :: B :: L) h) : Sat (B :: A :: L) h := by
  obtain ⟨h1, h2, s1, a, h3, h4, s2, b, l⟩ := s
  obtain ⟨h', t1, t2⟩ := s1.assoc s2
  exact ⟨h3, h', t1, b, h1, h4, t2, a, l⟩
theorem Sat.under {A : HP} {L M : List HP} {h : Hp} (s : Sat (A :: L) h) (f : ∀ h, Sat L h → Sat M h) : Sat (A :: M) h := by
  obtain ⟨h1, h2, s1, a, l⟩ := s
  exact ⟨h1, h2, s1, a, f _ l⟩
theorem Sat.hd {A B : HP} {L : List HP} {h : Hp} (s : Sat (A :: L) h) (f : ∀ h, A h → B h) : Sat (B :: L) h := by
  obtain ⟨h1, h2, s1, a, l⟩ := s
  exact ⟨h1, h2, s1, f _ a, l⟩
/-- The i-th part is laid first. -/
def pk : Nat → List HP → List HP
  | 0, L => L
  | _ + 1, [] => []
  | i + 1, A :: L => match pk i L with
    | [] => [A]
    | B :: M => B :: A :: M
theorem Sat.pick (i : Nat) {L : List HP} {h : Hp} (s : Sat L h) : Sat (pk i L) h := by
  induction i generalizing L h with
  | zero => exact s
  | succ i ih =>
    cases L with
    | nil => exact s
    | cons A L =>
      unfold pk
      cases hp : pk i L with
      | nil =>
        refine s.under fun h' s' => ?_
        trivial
      | cons B M =>
        refine Sat.swap (s.under fun h' s' => ?_)
        rw [← hp]; exact ih s'
/-- The first part is laid at place i. -/
def pb : Nat → List HP → List HP
  | 0, L => L
  | _ + 1, [] => []
  | _ + 1, [A] => [A]
  | i + 1, A :: B :: L => B :: pb i (A :: L)
theorem Sat.back (i : Nat) {L : List HP} {h : Hp} (s : Sat L h) : Sat (pb i L) h := by
  induction i generalizing L h with
  | zero => exact s
  | succ i ih =>
    match L, s with
    | [], s => exact s
    | [A], s => exact s
    | A :: B :: L, s => exact s.swap.under fun h' s' => ih s'
theorem Sat.tl {A : HP} {L : List HP} {h : Hp} (s : Sat (A :: L) h) : ∃ h', Sat L h' ∧ ∀ b o, h' b = some o → h b = some o := by
  obtain ⟨h1, h2, s1, a, l⟩ := s
  exact ⟨h2, l, fun b o => s1.r⟩
/-- Parts may be forgotten: a heap of fewer blocks serves where more of them lie. -/
theorem Sat.grow {L : List HP} : ∀ {h h' : Hp}, Sat L h → (∀ b o, h b = some o → h' b = some o) → Sat (L ++ [pr True]) h' := by
  induction L with
  | nil => intro h h' _ _; exact ⟨hE, h', Split.right _, trivial, trivial⟩
  | cons A L ih =>
    intro h h' s g
    obtain ⟨h1, h2, s1, a, l⟩ := s
    refine ⟨h1, fun b => if (h1 b).isSome then none else h' b, fun b => ?_, a, ih l fun b o hb => ?_⟩
    · cases hb : h1 b with
      | none => left; simp [hb]
      | some o => right; exact ⟨by simp [hb], g b o (s1.l hb)⟩
    · have : h1 b = none := s1.comm.off hb
      simp only [this, Option.isSome_none, Bool.false_eq_true, if_false]
      exact g b o (s1.r hb)
theorem Sat.drop1 {A : HP} {L : List HP} {h : Hp} (s : Sat (A :: L) h) : Sat (pr True :: L) h := s.hd fun _ _ => trivial
theorem Sat.ex_iff {α : Type} {A : α → HP} {L : List HP} {h : Hp} : Sat (ex A :: L) h ↔ ∃ x, Sat (A x :: L) h := by
  constructor
  · rintro ⟨h1, h2, s, ⟨x, a⟩, l⟩; exact ⟨x, h1, h2, s, a, l⟩
  · rintro ⟨x, h1, h2, s, a, l⟩; exact ⟨h1, h2, s, ⟨x, a⟩, l⟩
theorem Sat.pr_mk {p : Prop} {L : List HP} {h : Hp} (hp : p) (s : Sat L h) : Sat (pr p :: L) h := ⟨hE, h, Split.right _, hp, s⟩
theorem Sat.pr_out {p : Prop} {L : List HP} {h : Hp} (s : Sat (pr p :: L) h) : p := by
  obtain ⟨h1, h2, s, a, l⟩ := s; exact a
theorem Split.into {h h1 h2 h3 h4 : Hp} (s : Split h h1 h2) (t : Split h1 h3 h4) : ∃ h', Split h h3 h' ∧ Split h' h4 h2 := by
  obtain ⟨h', a, b⟩ := Split.assoc s.comm t
  exact ⟨h', a, b.comm⟩
/-- A part that is made of parts. -/
theorem Sat.open_ {M : List HP} : ∀ {L : List HP} {h : Hp}, Sat (sat M :: L) h → Sat (M ++ (pr True :: L)) h := by
  induction M with
  | nil => intro L h s; exact s.hd fun _ _ => trivial
  | cons A M ih =>
    intro L h s
    obtain ⟨h1, h2, s1, ⟨h3, h4, s2, a, m⟩, l⟩ := s
    obtain ⟨h', t1, t2⟩ := s1.into s2
    exact ⟨h3, h', t1, a, ih ⟨h4, h2, t2, m, l⟩⟩
theorem Sat.close {M : List HP} : ∀ {L : List HP} {h : Hp}, Sat (M ++ L) h → Sat (sat M :: L) h := by
  induction M with
  | nil => intro L h s; exact ⟨hE, h, Split.right _, trivial, s⟩
  | cons A M ih =>
    intro L h s
    obtain ⟨h1, h2, s1, a, s'⟩ := s
    obtain ⟨h3, h4, s2, m, l⟩ := ih s'
    obtain ⟨x, y⟩ := s1.join s2
    exact ⟨_, h4, x, ⟨h1, h3, y, a, m⟩, l⟩

theorem Sat.get {b : Nat} {o : Obj} {L : List HP} {h : Hp} (s : Sat (pts b o :: L) h) : h b = some o := by
  obtain ⟨h1, h2, s1, a, _⟩ := s
  exact s1.l a
theorem Sat.g0 {b : Nat} {o : Obj} {L : List HP} {h : Hp} (s : Sat (pts b o :: L) h) : h b = some o := s.get
theorem Sat.g1 {A : HP} {b : Nat} {o : Obj} {L : List HP} {h : Hp} (s : Sat (A :: pts b o :: L) h) : h b = some o := s.swap.get
theorem Sat.g2 {A B : HP} {b : Nat} {o : Obj} {L : List HP} {h : Hp} (s : Sat (A :: B :: pts b o :: L) h) : h b = some o := (s.pick 2 : Sat (pts b o :: A :: B :: L) h).get
theorem Sat.g3 {A B C : HP} {b : Nat} {o : Obj} {L : List HP} {h : Hp} (s : Sat (A :: B :: C :: pts b o :: L) h) : h b = some o := (s.pick 3 : Sat (pts b o :: A :: B :: C :: L) h).get
theorem Sat.g4 {A B C D : HP} {b : Nat} {o : Obj} {L : List HP} {h : Hp} (s : Sat (A :: B :: C :: D :: pts b o :: L) h) : h b = some o := (s.pick 4 : Sat (pts b o :: A :: B :: C :: D :: L) h).get
theorem Sat.set {b : Nat} {o o' : Obj} {L : List HP} {h : Hp} (s : Sat (pts b o :: L) h) : Sat (pts b o' :: L) (h.set b o') := by
  obtain ⟨h1, h2, s1, a, l⟩ := s
  refine ⟨h1.set b o', h2, fun i => ?_, by simp [pts, Hp.set], l⟩
  by_cases e : i = b
  · subst e
    right
    exact ⟨s1.off a, by simp [Hp.set]⟩
  · rcases s1 i with ⟨e1, e2⟩ | ⟨e1, e2⟩
    · left; simp [Hp.set, e, e1, e2]
    · right; simp [Hp.set, e, e1, e2]
theorem Sat.new {n : Nat} {o : Obj} {L : List HP} {h : Hp} (hn : h n = none) (s : Sat L h) : Sat (pts n o :: L) (h.set n o) := by
  refine ⟨fun i => if i = n then some o else none, h, fun i => ?_, by simp [pts], s⟩
  by_cases e : i = n
  · subst e; right; simp [Hp.set, hn]
  · left; simp [Hp.set, e]
theorem Sat.ne {b b' : Nat} {o o' : Obj} {L : List HP} {h : Hp} (s : Sat (pts b o :: pts b' o' :: L) h) : b ≠ b' := by
  rintro rfl
  obtain ⟨h1, h2, s1, a, h3, h4, s2, a', _⟩ := s
  have := s1.off a
  rw [s2.l a'] at this
  cases this

/-! ### Worlds -/
/-- What every step keeps. -/
structure Kp (w w' : World) : Prop where
  os : w'.os = w.os
  tape : w'.tape = w.tape
  output : w'.output = w.output
  size : w.heap.size ≤ w'.heap.size
  drawn : w.drawn ≤ w'.drawn
theorem Kp.refl (w : World) : Kp w w := ⟨rfl, rfl, rfl, Nat.le_refl _, Nat.le_refl _⟩
theorem Kp.trans {a b c : World} (h : Kp a b) (k : Kp b c) : Kp a c := ⟨k.os.trans h.os, k.tape.trans h.tape, k.output.trans h.output, Nat.le_trans h.size k.size, Nat.le_trans h.drawn k.drawn⟩
theorem hw_alloc (w : World) (o : Obj) : hw (w.alloc o) = (hw w).set w.heap.size o := by
  funext b
  simp only [hw, Hp.set, World.alloc, Array.getElem?_push]
theorem hw_none (w : World) : hw w w.heap.size = none := by simp [hw]
theorem hw_setCell {w : World} {b o : Nat} {cs : List Value} {t : TypeId} {f : Nat × Nat} (g : hw w b = some (.cells cs.toArray t f)) (v : Value) : hw (w.setCell ⟨b, o, none⟩ v) = (hw w).set b (.cells (cs.set o v).toArray t f) := by
  funext i
  simp only [hw, Hp.set, World.setCell, Array.getElem?_modify]
  by_cases e : b = i
  · subst e
    have g' : w.heap[b]? = some (.cells cs.toArray t f) := g
    simp [g']
  · simp only [e, if_false]
    rw [if_neg fun h => e h.symm]
theorem cell_of {w : World} {b : Nat} {cs : List Value} {t : TypeId} {f : Nat × Nat} (g : hw w b = some (.cells cs.toArray t f)) (o : Nat) : w.cell? ⟨b, o, none⟩ = cs[o]? := by
  have g' : w.heap[b]? = some (.cells cs.toArray t f) := g
  simp [World.cell?, g']
theorem free_of {w : World} {b : Nat} {cs : List Value} {t : TypeId} (g : hw w b = some (.cells cs.toArray t (0, 0))) (o : Nat) : w.frozen? ⟨b, o, none⟩ = false := by
  have g' : w.heap[b]? = some (.cells cs.toArray t (0, 0)) := g
  simp [World.frozen?, g']
theorem add_of (b o n : Nat) : Addr.add ⟨b, o, none⟩ n = ⟨b, o + n, none⟩ := by
  unfold Addr.add
  split
  · rename_i h; subst h; rfl
  · rfl
theorem Kp.setCell (w : World) (a : Addr) (v : Value) : Kp w (w.setCell a v) := ⟨rfl, rfl, rfl, by simp [World.setCell], Nat.le_refl _⟩
theorem Kp.alloc (w : World) (o : Obj) : Kp w (w.alloc o) := ⟨rfl, rfl, rfl, by simp, Nat.le_refl _⟩
theorem Kp.drew (w : World) : Kp w w.drew := ⟨rfl, rfl, rfl, Nat.le_refl _, Nat.le_succ _⟩

/-- A row with some cells written anew from o on. -/
def splice (cs : List Value) (o : Nat) : List Value → List Value
  | [] => cs
  | v :: r => splice (cs.set o v) (o + 1) r
theorem splice_length (o : Nat) (vs cs : List Value) : (splice cs o vs).length = cs.length := by
  induction vs generalizing cs o with
  | nil => rfl
  | cons v r ih => rw [splice, ih]; simp
theorem splice_eq (o : Nat) (vs cs : List Value) (h : o + vs.length ≤ cs.length) : splice cs o vs = cs.take o ++ vs ++ cs.drop (o + vs.length) := by
  induction vs generalizing cs o with
  | nil => simp [splice]
  | cons v r ih =>
    simp only [List.length_cons] at h
    rw [splice, ih (o + 1) (cs.set o v) (by simp; omega)]
    have ho : o < cs.length := by omega
    rw [List.take_succ_eq_append_getElem (by simpa using ho)]
    have h1 : (cs.set o v).take o = cs.take o := by
      rw [List.take_set_of_le (by omega)]
    have h2 : (cs.set o v).drop (o + 1 + r.length) = cs.drop (o + (r.length + 1)) := by
      rw [List.drop_set_of_lt (by omega)]; congr 1; omega
    rw [h1, h2]
    simp

theorem hw_stCells {b o : Nat} {t : TypeId} : ∀ (vs cs : List Value) (i : Nat) (w : World), hw w b = some (.cells cs.toArray t (0, 0)) →
    hw (stCells ⟨b, o, none⟩ vs i w) = (hw w).set b (.cells (splice cs (o + i) vs).toArray t (0, 0))
  | [], cs, i, w, g => by
    funext j
    simp only [stCells, splice, Hp.set]
    split
    · rename_i e; subst e; exact g
    · rfl
  | v :: r, cs, i, w, g => by
    have h1 := hw_setCell (o := o + i) g v
    have g1 : hw (w.setCell ⟨b, o + i, none⟩ v) b = some (.cells (cs.set (o + i) v).toArray t (0, 0)) := by rw [h1]; simp [Hp.set]
    rw [stCells, add_of, hw_stCells r _ (i + 1) _ g1, h1, splice]
    funext j
    simp only [Hp.set]
    split
    · rfl
    · rfl
theorem Kp.stCells (p : Addr) : ∀ (vs : List Value) (i : Nat) (w : World), Kp w (stCells p vs i w)
  | [], _, w => Kp.refl w
  | v :: r, i, w => (Kp.setCell w _ v).trans (Kp.stCells p r (i + 1) _)

/-! ### The combinators that touch memory -/
section
variable {L : List HP} {w : World} {K : Value → WP} {b o n : Nat} {t : TypeId} {cs : List Value} {v : Value}

theorem ld1 (g : hw w b = some (.cells cs.toArray t (0, 0))) (hv : cs[o]? = some v) (k : K v w) : Ld1 (.pointer (some ⟨b, o, none⟩)) K w := ⟨_, v, rfl, (cell_of g o).trans hv, k⟩
theorem ldN (g : hw w b = some (.cells cs.toArray t (0, 0))) (vs : List Value) (hl : vs.length = n) (hv : ∀ j x, vs[j]? = some x → cs[o + j]? = some x) (k : K (.agg vs.toArray) w) : LdN n (.pointer (some ⟨b, o, none⟩)) K w :=
  ⟨_, vs, rfl, hl, fun j x hx => by rw [add_of, cell_of g]; exact hv j x hx, k⟩
theorem st_ok (s : Sat (cel b t cs :: L) (hw w)) (hn : v.cells.size = n) (hl : o + n ≤ cs.length) (h1 : ∀ x ∈ v.cells.toList, x.oneCell' = true)
    (k : ∀ w', Sat (cel b t (splice cs o v.cells.toList) :: L) (hw w') → Kp w w' → K undef w') : St n (.pointer (some ⟨b, o, none⟩)) v K w := by
  have g : hw w b = some (.cells cs.toArray t (0, 0)) := s.get
  refine ⟨_, rfl, hn, fun j x hx => ⟨h1 x (List.mem_of_getElem? hx), ?_, ?_⟩, k _ ?_ (Kp.stCells _ _ _ _)⟩
  · have hj : j < n := by
      have := (List.getElem?_eq_some_iff.1 hx).1
      rw [Array.length_toList, hn] at this; exact this
    rw [add_of, cell_of g]
    exact ⟨_, List.getElem?_eq_getElem (by omega)⟩
  · rw [add_of]; exact free_of g _
  · rw [hw_stCells _ cs 0 w g]
    exact s.set
theorem st1_ok (s : Sat (cel b t cs :: L) (hw w)) (hv : v.cells = #[v]) (hl : o < cs.length) (h1 : v.oneCell' = true)
    (k : ∀ w', Sat (cel b t (cs.set o v) :: L) (hw w') → Kp w w' → K undef w') : St 1 (.pointer (some ⟨b, o, none⟩)) v K w :=
  st_ok s (by rw [hv]; rfl) (by omega) (by rw [hv]; simpa using h1) (by rw [hv]; exact k)
theorem new_ok (s : Sat L (hw w)) (k : ∀ b w', Sat (cel b t cs :: L) (hw w') → Kp w w' → K (.pointer (some ⟨b, 0, none⟩)) w') : New t cs.toArray K w := by
  refine k w.heap.size (w.alloc _) ?_ (Kp.alloc _ _)
  rw [hw_alloc]
  exact Sat.new (hw_none w) s
theorem bsl_ok {elem size len : Nat} {zero : Array Value} {parts : Array (Nat × Value)} (s : Sat L (hw w)) (hs : len * size ≤ 2 ^ 24)
    (hf : Instr.fill (fun i => some (i * size, size)) ((Array.range (len * size)).map (zero[· % zero.size]!)) parts.toList = some cs.toArray)
    (k : ∀ b w', Sat (cel b elem cs :: L) (hw w') → Kp w w' → K (.slice (some ⟨b, 0, none⟩) len len) w') : BSlC elem size zero len parts K w := by
  refine ⟨hs, _, hf, k w.heap.size _ ?_ (Kp.alloc _ _)⟩
  rw [hw_alloc]
  exact Sat.new (hw_none w) s

/-- A slice that owns its row: n elements, whose cells are cs. -/
def Rw (elem es : Nat) (v : Value) (n : Nat) (cs : List Value) : HP := fun h =>
  (v = .slice none 0 0 ∧ n = 0 ∧ cs = []) ∨
  ∃ b cap junk, v = .slice (some ⟨b, 0, none⟩) n cap ∧ n ≤ cap ∧ cs.length = n * es ∧ (cs ++ junk).length = cap * es ∧ h b = some (.cells (cs ++ junk).toArray elem (0, 0))
theorem Rw.nil (elem es : Nat) {h : Hp} (s : Sat L h) : Sat (Rw elem es (.slice none 0 0) 0 [] :: L) h := ⟨hE, h, Split.right _, .inl ⟨rfl, rfl, rfl⟩, s⟩
theorem Rw.len {elem es : Nat} {h : Hp} (s : Sat (Rw elem es v n cs :: L) h) : cs.length = n * es := by
  obtain ⟨h1, h2, _, hr, _⟩ := s
  rcases hr with ⟨_, rfl, rfl⟩ | ⟨b, cap, junk, _, _, hl, _⟩
  · simp
  · exact hl
theorem Rw.shape {elem es : Nat} {h : Hp} (s : Sat (Rw elem es v n cs :: L) h) : ∃ p c, v = .slice p n c ∧ n ≤ c := by
  obtain ⟨h1, h2, _, hr, _⟩ := s
  rcases hr with ⟨rfl, rfl, rfl⟩ | ⟨b, cap, junk, rfl, hle, _⟩
  · exact ⟨_, _, rfl, Nat.le_refl _⟩
  · exact ⟨_, _, rfl, hle⟩
/-- A row that is not empty lies in a block. -/
theorem Rw.block {elem es : Nat} {h : Hp} (s : Sat (Rw elem es v n cs :: L) h) (hn : 0 < n) : ∃ b cap junk, v = .slice (some ⟨b, 0, none⟩) n cap ∧ n ≤ cap ∧ (cs ++ junk).length = cap * es ∧ Sat (cel b elem (cs ++ junk) :: L) h := by
  obtain ⟨h1, h2, s1, hr, l⟩ := s
  rcases hr with ⟨_, rfl, _⟩ | ⟨b, cap, junk, rfl, hle, hl, hl2, hb⟩
  · omega
  · exact ⟨b, cap, junk, rfl, hle, hl2, h1, h2, s1, hb, l⟩
theorem Rw.mk {elem es b cap : Nat} {junk : List Value} {h : Hp} (s : Sat (cel b elem (cs ++ junk) :: L) h) (hle : n ≤ cap) (hl : cs.length = n * es) (hl2 : (cs ++ junk).length = cap * es) : Sat (Rw elem es (.slice (some ⟨b, 0, none⟩) n cap) n cs :: L) h :=
  s.hd fun _ a => .inr ⟨b, cap, junk, rfl, hle, hl, hl2, a⟩

theorem hw_setCells {b : Nat} {t : TypeId} : ∀ (vs cs : List Value) (o : Nat) (w : World), hw w b = some (.cells cs.toArray t (0, 0)) →
    hw (w.setCells b o vs) = (hw w).set b (.cells (splice cs o vs).toArray t (0, 0))
  | [], cs, o, w, g => by
    funext j
    simp only [World.setCells, splice, Hp.set]
    split
    · rename_i e; subst e; exact g
    · rfl
  | v :: r, cs, o, w, g => by
    have h1 := hw_setCell (o := o) g v
    have g1 : hw (w.setCell ⟨b, o, none⟩ v) b = some (.cells (cs.set o v).toArray t (0, 0)) := by rw [h1]; simp [Hp.set]
    rw [World.setCells, hw_setCells r _ (o + 1) _ g1, h1, splice]
    funext j
    simp only [Hp.set]
    split <;> rfl
theorem Kp.setCells (b : Nat) : ∀ (vs : List Value) (o : Nat) (w : World), Kp w (w.setCells b o vs)
  | [], _, w => Kp.refl w
  | v :: r, o, w => (Kp.setCell w _ v).trans (Kp.setCells b r (o + 1) _)
theorem zeros_len (zero : Array Value) (n : Nat) : (Builtin.zeroCells zero n).toList.length = n * zero.size := by
  rw [Array.length_toList, size_zeroCells]

/-- An append to a row of one's own. -/
theorem app_ok {elem es bytes m : Nat} {zero : Array Value} {sv x : Value} {news : List Value} (s : Sat (Rw elem es sv n cs :: L) (hw w)) (hx : SrcV es x m news w) (hz : zero.size = es) (hm : 0 < m) (hb : (n + m) * bytes ≤ 140737488355328) (h63 : n + m < 4611686018427387904)
    (hx2 : ∀ v ∈ news, v.oneCell' = true)
    (k : ∀ sv' w', Sat (Rw elem es sv' (n + m) (cs ++ news) :: L) (hw w') → Kp w w' → K sv' w') : AppC elem es bytes zero sv x K w := by
  have hnl : news.length = m * es := by
    rcases hx with ⟨a, c, rfl, hl, hc, h1⟩ | ⟨c, rfl, rfl, rfl⟩
    · exact hl
    · omega
  have grow : ∀ (base : Option Addr) (sCap : Nat) (olds : List Value), sv = .slice base n sCap → OldV es base n olds w → olds = cs → cs.length = n * es → sCap < n + m → AppC elem es bytes zero sv x K w := by
    rintro base sCap olds rfl ho rfl hlen hg
    refine ⟨base, n, sCap, m, news, rfl, hx, .inr (.inr ⟨olds, ho, hg, by omega, growslice_fits hg hb, fun c hc => k _ _ ?_ ((Kp.drew w).trans (Kp.alloc _ _))⟩)⟩
    have e : ((olds ++ news).toArray ++ Builtin.zeroCells zero (c - (n + m))) = ((olds ++ news) ++ (Builtin.zeroCells zero (c - (n + m))).toList).toArray := by
      apply Array.ext'; simp
    rw [e, hw_alloc]
    have s' : Sat (cel w.drew.heap.size elem ((olds ++ news) ++ (Builtin.zeroCells zero (c - (n + m))).toList) :: Rw elem es (.slice base n sCap) n olds :: L) ((hw w.drew).set w.drew.heap.size (.cells ((olds ++ news) ++ (Builtin.zeroCells zero (c - (n + m))).toList).toArray elem)) := Sat.new (hw_none w.drew) s
    obtain ⟨h1, h2, s1, a, h3, h4, s2, _, l⟩ := s'
    have s'' : Sat (cel w.drew.heap.size elem ((olds ++ news) ++ (Builtin.zeroCells zero (c - (n + m))).toList) :: L) ((hw w.drew).set w.drew.heap.size (.cells ((olds ++ news) ++ (Builtin.zeroCells zero (c - (n + m))).toList).toArray elem)) := by
      exact ⟨_, h4, (s1.join s2).1, orH_l a, l⟩
    refine Rw.mk s'' (by omega) ?_ ?_
    · rw [List.length_append, hlen, hnl, Nat.add_mul]
    · simp only [List.length_append, hlen, hnl, Array.length_toList, size_zeroCells, hz]
      rw [← Nat.add_mul, ← Nat.add_mul]; congr 1; omega
  obtain ⟨h1, h2, s1, hr, l⟩ := s
  rcases hr with ⟨rfl, rfl, rfl⟩ | ⟨b, cap, junk, rfl, hle, hl, hl2, hbk⟩
  · exact grow none 0 [] rfl (.none rfl rfl) rfl (by simp) (by omega)
  · have g : hw w b = some (.cells (cs ++ junk).toArray elem (0, 0)) := s1.l hbk
    by_cases hroom : n + m ≤ cap
    · refine ⟨_, n, cap, m, news, rfl, hx, .inr (.inl ⟨b, 0, rfl, hroom, fun j hj => ?_, fun j hj => free_of g _, k _ _ ?_ (Kp.setCells _ _ _ _)⟩)⟩
      · rw [cell_of g]
        have : 0 + n * es + j < (cs ++ junk).length := by
          rw [hl2]
          have : (n + m) * es ≤ cap * es := Nat.mul_le_mul_right _ hroom
          rw [Nat.add_mul] at this
          omega
        rw [List.getElem?_eq_getElem this]; rfl
      · rw [hw_setCells news (cs ++ junk) _ w g, Nat.zero_add]
        have hfit : n * es + news.length ≤ (cs ++ junk).length := by
          rw [hl2, hnl, ← Nat.add_mul]; exact Nat.mul_le_mul_right _ hroom
        have e : splice (cs ++ junk) (n * es) news = (cs ++ news) ++ junk.drop news.length := by
          rw [splice_eq _ _ _ hfit, ← hl, List.take_left]
          rw [List.drop_append]
          simp
        have s2 : Sat (cel b elem (splice (cs ++ junk) (n * es) news) :: L) ((hw w).set b (.cells (splice (cs ++ junk) (n * es) news).toArray elem (0, 0))) := Sat.set (o := .cells (cs ++ junk).toArray elem (0, 0)) ⟨h1, h2, s1, hbk, l⟩
        rw [e] at s2 ⊢
        refine Rw.mk s2 hroom ?_ ?_
        · rw [List.length_append, hl, hnl, Nat.add_mul]
        · rw [← e, splice_length]; exact hl2
    · exact grow (some ⟨b, 0, none⟩) cap cs rfl (.some _ rfl hl fun j u hu => by
        rw [add_of, cell_of g, Nat.zero_add, List.getElem?_append_left (List.getElem?_eq_some_iff.1 hu).1]; exact hu) rfl hl (by omega)
end
end Go.Jac
