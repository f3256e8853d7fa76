/- Objects: what all calls keep. -/
import Derived.Test.YtbbenmflickapaaDoorOs
set_option maxRecDepth 100000
namespace Go.Proofs.YtbbenmflickapaaDoor
open Go Go.Jac
def Sm (B : Int) (x : Hd) : Prop := (-B ≤ x.refs ∧ x.refs ≤ B) ∧ (-B ≤ x.car ∧ x.car ≤ B)
theorem fold_get {F : List Hd → Int → List Hd} {dr dc : Int} (hdr : -1 ≤ dr ∧ dr ≤ 1) (hdc : -1 ≤ dc ∧ dc ≤ 1)
    (hF : ∀ M id, (∀ a x, hfind M a = some x → Sm 1000000 x) → (hfind M id = none → F M id = M) ∧ ∀ x, hfind M id = some x → F M id = { x with refs := x.refs + dr, car := x.car + dc } :: rmH id M) :
    ∀ (l : List Int) (M : List Hd) (B : Int), (∀ a x, hfind M a = some x → Sm B x) → B + l.length ≤ 1000000 → ∀ a, hfind (l.foldl F M) a = (hfind M a).map fun x => { x with refs := x.refs + dr * l.count a, car := x.car + dc * l.count a }
  | [], M, B, _, _, a => by
    simp only [List.foldl_nil, List.count_nil]
    cases hfind M a with
    | none => rfl
    | some x => simp
  | c :: l, M, B, hB, hl, a => by
    simp only [List.length_cons] at hl
    have hw : ∀ a x, hfind M a = some x → Sm 1000000 x := fun a x hx => by
      have := hB a x hx
      unfold Sm at *; omega
    have e1 : ∀ a, hfind (F M c) a = (hfind M a).map fun x => { x with refs := x.refs + dr * ([c].count a : Nat), car := x.car + dc * ([c].count a : Nat) } := fun a => by
      cases hc : hfind M c with
      | none =>
        rw [(hF M c hw).1 hc]
        by_cases e : a = c
        · subst e; rw [hc]; rfl
        · have : ([c] : List Int).count a = 0 := List.count_eq_zero.2 (by simpa using e)
          rw [this]
          cases hfind M a with
          | none => rfl
          | some x => simp
      | some x =>
        rw [(hF M c hw).2 x hc, hfind_upd (y := { x with refs := x.refs + dr, car := x.car + dc }) (hfind_id hc).1]
        by_cases e : a = c
        · subst e
          rw [if_pos rfl, hc, List.count_singleton_self]
          simp
        · have : ([c] : List Int).count a = 0 := List.count_eq_zero.2 (by simpa using e)
          rw [if_neg e, this]
          cases hfind M a with
          | none => rfl
          | some x => simp
    have hB1 : ∀ a x, hfind (F M c) a = some x → Sm (B + 1) x := fun a x hx => by
      rw [e1] at hx
      obtain ⟨z, hz, rfl⟩ := Option.map_eq_some_iff.1 hx
      have h1 := hB a z hz
      have h2 : ([c] : List Int).count a = 0 ∨ ([c] : List Int).count a = 1 := by
        by_cases e : a = c
        · subst e; exact .inr List.count_singleton_self
        · exact .inl (List.count_eq_zero.2 (by simpa using e))
      unfold Sm at *
      rcases h2 with h2 | h2 <;> (rw [h2]; simp only; omega)
    rw [List.foldl_cons, fold_get hdr hdc hF l (F M c) (B + 1) hB1 (by omega) a, e1, Option.map_map]
    have h3 : (c :: l).count a = ([c].count a) + l.count a := by
      rw [← List.singleton_append, List.count_append]
    congr 1
    funext x
    simp only [Function.comp, h3, Hd.mk.injEq, true_and, and_true, Int.natCast_add, Int.mul_add]
    omega
theorem refs_get (l : List Int) {M : List Hd} {B : Int} (hB : ∀ a x, hfind M a = some x → Sm B x) (hl : B + l.length ≤ 1000000) (a : Int) : hfind (l.foldl refF M) a = (hfind M a).map fun x => { x with refs := x.refs - l.count a } := by
  rw [fold_get (F := refF) (dr := -1) (dc := 0) (by omega) (by omega) (fun M id hM => ⟨fun h => by unfold refF; rw [h], fun x hx => by
    have := hM id x hx
    unfold Sm at this
    unfold refF; rw [hx]
    simp only [w64 (n := x.refs - 1) (by omega) (by omega), Int.add_zero]
    rfl⟩) l M B hB hl a]
  congr 1
  funext x
  simp only [Hd.mk.injEq, true_and, and_true, Int.zero_mul, Int.add_zero]
  omega
theorem cars_get (l : List Int) {M : List Hd} {B : Int} (hB : ∀ a x, hfind M a = some x → Sm B x) (hl : B + l.length ≤ 1000000) (a : Int) : hfind (l.foldl carF M) a = (hfind M a).map fun x => { x with refs := x.refs - l.count a, car := x.car + l.count a } := by
  rw [fold_get (F := carF) (dr := -1) (dc := 1) (by omega) (by omega) (fun M id hM => ⟨fun h => by unfold carF; rw [h], fun x hx => by
    have := hM id x hx
    unfold Sm at this
    unfold carF; rw [hx]
    simp only [w64 (n := x.refs - 1) (by omega) (by omega), w64 (n := x.car + 1) (by omega) (by omega)]
    rfl⟩) l M B hB hl a]
  congr 1
  funext x
  simp only [Hd.mk.injEq, true_and, and_true, Int.one_mul]
  omega
theorem hans_get (l : List Int) {M : List Hd} {B : Int} (hB : ∀ a x, hfind M a = some x → Sm B x) (hl : B + l.length ≤ 1000000) (a : Int) : hfind (l.foldl hanF M) a = (hfind M a).map fun x => { x with refs := x.refs + l.count a, car := x.car - l.count a } := by
  rw [fold_get (F := hanF) (dr := 1) (dc := -1) (by omega) (by omega) (fun M id hM => ⟨fun h => by unfold hanF; rw [h], fun x hx => by
    have := hM id x hx
    unfold Sm at this
    unfold hanF; rw [hx]
    simp only [w64 (n := x.car - 1) (by omega) (by omega), w64 (n := x.refs + 1) (by omega) (by omega)]
    rfl⟩) l M B hB hl a]
  congr 1
  funext x
  simp only [Hd.mk.injEq, true_and, and_true, Int.one_mul]
  omega
/-- What holds behind t calls; E: which have ended. -/
structure HI (t : Nat) (last : Int) (M : List Hd) (E : List Int) : Prop where
  nd : Nd M
  ids : ∀ a x, hfind M a = some x → 1 ≤ a ∧ a ≤ last
  held : ∀ a x, hfind M a = some x → 0 < x.refs + x.pins + x.car
  bnd : ∀ a x, hfind M a = some x → (0 ≤ x.refs ∧ x.refs ≤ 30 * t + 10) ∧ (0 ≤ x.pins ∧ x.pins ≤ t) ∧ x.car ≤ 30 * t ∧ bt M - x.car ≤ 30 * t
  sym : ∀ a x y, hfind M a = some x → hfind M x.peer = some y → y.peer = a
  unp : ∀ a x, hfind M a = some x → x.peer ≤ last ∧ (x.paired = false → x.peer = 0)
  la : 0 ≤ last ∧ last ≤ t
  en : E.Nodup ∧ ∀ e ∈ E, hfind M e = none ∧ e ≤ last
  cnt : (M.length : Int) + E.length = last
  bb : bt M ≤ 30 * t
section
variable {t : Nat} {last : Int} {M : List Hd} {E : List Int}
theorem HI.z0 (h : HI t last M E) : hfind M 0 = none := by
  cases hx : hfind M 0 with
  | none => rfl
  | some x => have := h.ids 0 x hx; omega
theorem HI.car (h : HI t last M E) {a : Int} {x : Hd} (hx : hfind M a = some x) : -(30 * t : Int) ≤ x.car := by
  have := h.bnd a x hx
  omega
theorem HI.small (h : HI t last M E) (ht : t ≤ 100) {a : Int} {x : Hd} (hx : hfind M a = some x) : Sm 5000 x := by
  have := h.bnd a x hx
  have := h.car hx
  unfold Sm; omega
theorem HI.heldT (h : HI t last M E) (ht : t ≤ 100) {a : Int} {x : Hd} (hx : hfind M a = some x) : heldB x = true := by
  have h1 := h.bnd a x hx
  have h2 := h.car hx
  have h3 := h.held a x hx
  rw [held_b (by omega) (by omega) (by omega)]
  simpa using h3
theorem HI.nil : HI 0 0 [] [] := by
  have no : ∀ (a : Int) (x : Hd), ¬ hfind [] a = some x := fun a x h => by cases h
  exact ⟨by show List.Nodup []; simp, fun a x h => absurd h (no a x), fun a x h => absurd h (no a x), fun a x h => absurd h (no a x), fun a x _ h => absurd h (no a x), fun a x h => absurd h (no a x), by omega, by simp, by simp, by simp [bt]⟩
theorem HI.late (h : HI t last M E) : HI (t + 1) last M E :=
  ⟨h.nd, h.ids, h.held, fun a x hx => by have := h.bnd a x hx; omega, h.sym, h.unp, by have := h.la; omega, h.en, h.cnt, by have := h.bb; omega⟩
/-- Other numbers, the same objects and peers. -/
theorem HI.turn {N : List Hd} (h : HI t last M E) (hn : Nd N) (hl : N.length = M.length) (hbN : bt N ≤ 30 * t + 30) (hg : ∀ a, (hfind M a = none → hfind N a = none) ∧ ∀ x, hfind M a = some x → ∃ y, hfind N a = some y ∧ y.peer = x.peer ∧ y.paired = x.paired ∧ 0 < y.refs + y.pins + y.car ∧ (0 ≤ y.refs ∧ y.refs ≤ 30 * t + 40) ∧ (0 ≤ y.pins ∧ y.pins ≤ t + 1) ∧ y.car ≤ 30 * t + 30 ∧ bt N - y.car ≤ 30 * t + 30) : HI (t + 1) last N E := by
  have back : ∀ a y, hfind N a = some y → ∃ x, hfind M a = some x ∧ y.peer = x.peer ∧ y.paired = x.paired ∧ 0 < y.refs + y.pins + y.car ∧ (0 ≤ y.refs ∧ y.refs ≤ 30 * t + 40) ∧ (0 ≤ y.pins ∧ y.pins ≤ t + 1) ∧ y.car ≤ 30 * t + 30 ∧ bt N - y.car ≤ 30 * t + 30 := fun a y hy => by
    cases hx : hfind M a with
    | none => rw [(hg a).1 hx] at hy; cases hy
    | some x =>
      obtain ⟨y', h1, h2⟩ := (hg a).2 x hx
      rw [hy] at h1
      obtain rfl := Option.some.inj h1
      exact ⟨x, rfl, h2⟩
  refine ⟨hn, fun a y hy => ?_, fun a y hy => ?_, fun a y hy => ?_, fun a x y hx hy => ?_, fun a y hy => ?_, by have := h.la; omega, ⟨h.en.1, fun e he => ⟨(hg e).1 (h.en.2 e he).1, (h.en.2 e he).2⟩⟩, by rw [hl]; exact h.cnt, by omega⟩
  · obtain ⟨x, h1, _⟩ := back a y hy
    exact h.ids a x h1
  · obtain ⟨x, h1, h2, h3, h4, _⟩ := back a y hy
    exact h4
  · obtain ⟨x, h1, h2, h3, h4, h5⟩ := back a y hy
    omega
  · obtain ⟨x0, h1, h2, _⟩ := back a x hx
    obtain ⟨y0, g1, g2, _⟩ := back _ y hy
    rw [g2]
    exact h.sym a x0 y0 h1 (by rw [← h2]; exact g1)
  · obtain ⟨x0, h1, h2, h3, _⟩ := back a y hy
    rw [h2, h3]
    exact h.unp a x0 h1
theorem HI.make {x : Hd} (h : HI t last M E) (hi : x.id = last + 1) (hp : x.peer = 0) (hr : x.refs = 1 ∧ x.pins = 0 ∧ x.car = 0 ∧ x.bag = []) : hfind M (last + 1) = none ∧ HI (t + 1) (last + 1) (x :: M) E := by
  have hno : hfind M (last + 1) = none := by
    cases hx : hfind M (last + 1) with
    | none => rfl
    | some x => have := h.ids _ x hx; omega
  have hla := h.la
  have hb : bt (x :: M) = bt M := by rw [bt_cons, hr.2.2.2]; simp
  have hbt := h.bb
  have look : ∀ a y, hfind (x :: M) a = some y → (a = last + 1 ∧ y = x) ∨ (a ≠ last + 1 ∧ hfind M a = some y) := fun a y hy => by
    rw [hfind_cons, hi] at hy
    split at hy
    · rename_i e; exact .inl ⟨e.symm, (Option.some.inj hy).symm⟩
    · rename_i e; exact .inr ⟨fun h => e h.symm, hy⟩
  refine ⟨hno, ?_, fun a y hy => ?_, fun a y hy => ?_, fun a y hy => ?_, fun a y z hy hz => ?_, fun a y hy => ?_, by omega, ⟨h.en.1, fun e he => ?_⟩, ?_, by omega⟩
  · have h1 := h.nd
    unfold Nd at h1 ⊢
    rw [List.map_cons, List.nodup_cons]
    refine ⟨fun hm => ?_, h1⟩
    obtain ⟨y, hy, e⟩ := List.mem_map.1 hm
    have := hfind_mem h.nd hy
    rw [e, hi, hno] at this; cases this
  · rcases look a y hy with ⟨e, _⟩ | ⟨_, h1⟩
    · omega
    · have := h.ids a y h1; omega
  · rcases look a y hy with ⟨_, rfl⟩ | ⟨_, h1⟩
    · omega
    · exact h.held a y h1
  · rw [hb]
    rcases look a y hy with ⟨_, rfl⟩ | ⟨_, h1⟩
    · omega
    · have := h.bnd a y h1; omega
  · rcases look a y hy with ⟨_, rfl⟩ | ⟨_, h1⟩
    · rw [hp] at hz
      rcases look 0 z hz with ⟨e, _⟩ | ⟨_, h2⟩
      · omega
      · rw [h.z0] at h2; cases h2
    · rcases look _ z hz with ⟨e, _⟩ | ⟨_, h2⟩
      · have := (h.unp a y h1).1; omega
      · exact h.sym a y z h1 h2
  · rcases look a y hy with ⟨_, rfl⟩ | ⟨_, h1⟩
    · exact ⟨by omega, fun _ => hp⟩
    · have := h.unp a y h1
      exact ⟨by omega, this.2⟩
  · have := h.en.2 e he
    refine ⟨?_, by omega⟩
    rw [hfind_cons, hi, if_neg (by omega)]
    exact this.1
  · have := h.cnt
    simp only [List.length_cons]
    omega
theorem HI.set {id : Int} {x y : Hd} (h : HI t last M E) (hx : hfind M id = some x) (hi : y.id = id) (hp : y.peer = x.peer ∧ y.paired = x.paired ∧ y.bag = x.bag) (hh : 0 < y.refs + y.pins + y.car)
    (hb : (0 ≤ y.refs ∧ y.refs ≤ 30 * t + 40) ∧ (0 ≤ y.pins ∧ y.pins ≤ t + 1) ∧ y.car = x.car) : HI (t + 1) last (y :: rmH id M) E := by
  have hbt : bt (y :: rmH id M) = bt M := bt_set h.nd hx hp.2.2
  refine h.turn (Nd.upd (x := x) h.nd hi) (set_len h.nd hx) (by have := h.bb; omega) fun a => ⟨fun ha => ?_, fun z hz => ?_⟩
  · rw [hfind_upd hi]
    split
    · rename_i e; rw [e, hx] at ha; cases ha
    · exact ha
  · rw [hfind_upd hi, hbt]
    split
    · rename_i e
      rw [e, hx] at hz
      obtain rfl := Option.some.inj hz
      have := h.bnd id x hx
      exact ⟨y, rfl, hp.1, hp.2.1, hh, hb.1, hb.2.1, by omega, by omega⟩
    · have := h.bnd a z hz
      have h2 := h.held a z hz
      exact ⟨z, hz, rfl, rfl, h2, by omega, by omega, by omega, by omega⟩
theorem HI.ref {id : Int} {x : Hd} (h : HI t last M E) (ht : t ≤ 100) (hx : hfind M id = some x) : HI (t + 1) last ({ x with refs := IntKind.i64.wrap (x.refs + 1) } :: rmH id M) E := by
  have h1 := h.bnd id x hx
  have h2 := h.held id x hx
  rw [w64 (by omega) (by omega)]
  exact h.set (y := { x with refs := x.refs + 1 }) hx (hfind_id hx).1 ⟨rfl, rfl, rfl⟩ (by simp only; omega) ⟨by simp only; omega, by simp only; omega, rfl⟩
theorem HI.pin {id : Int} {x : Hd} (h : HI t last M E) (ht : t ≤ 100) (hx : hfind M id = some x) : HI (t + 1) last ({ x with pins := IntKind.i64.wrap (x.pins + 1) } :: rmH id M) E := by
  have h1 := h.bnd id x hx
  have h2 := h.held id x hx
  rw [w64 (by omega) (by omega)]
  exact h.set (y := { x with pins := x.pins + 1 }) hx (hfind_id hx).1 ⟨rfl, rfl, rfl⟩ (by simp only; omega) ⟨by simp only; omega, by simp only; omega, rfl⟩
theorem HI.pair {a b : Int} {x y : Hd} (h : HI t last M E) (hx : hfind M a = some x) (hy : hfind M b = some y) (hab : a ≠ b) (hpx : x.paired = false) (hpy : y.paired = false) :
    HI (t + 1) last ({ y with peer := a, paired := true } :: rmH b ({ x with peer := b, paired := true } :: rmH a M)) E := by
  have hxi := (hfind_id hx).1
  have hyi := (hfind_id hy).1
  have n1 : Nd ({ x with peer := b, paired := true } :: rmH a M) := Nd.upd (x := x) h.nd hxi
  have f1 := hfind_upd (S := M) (id := a) (y := { x with peer := b, paired := true }) hxi
  have hy1 : hfind ({ x with peer := b, paired := true } :: rmH a M) b = some y := by rw [f1, if_neg (fun e => hab e.symm)]; exact hy
  have f2 := hfind_upd (S := { x with peer := b, paired := true } :: rmH a M) (id := b) (y := { y with peer := a, paired := true }) hyi
  have l1 : ({ x with peer := b, paired := true } :: rmH a M).length = M.length := set_len h.nd hx
  have l2 : ({ y with peer := a, paired := true } :: rmH b ({ x with peer := b, paired := true } :: rmH a M)).length = ({ x with peer := b, paired := true } :: rmH a M).length := set_len n1 hy1
  have b1 : bt ({ x with peer := b, paired := true } :: rmH a M) = bt M := bt_set h.nd hx rfl
  have b2 : bt ({ y with peer := a, paired := true } :: rmH b ({ x with peer := b, paired := true } :: rmH a M)) = bt ({ x with peer := b, paired := true } :: rmH a M) := bt_set n1 hy1 rfl
  have ux := h.unp a x hx
  have uy := h.unp b y hy
  have ix := h.ids a x hx
  have iy := h.ids b y hy
  have hla := h.la
  have look : ∀ c z, hfind ({ y with peer := a, paired := true } :: rmH b ({ x with peer := b, paired := true } :: rmH a M)) c = some z → (c = b ∧ z = { y with peer := a, paired := true }) ∨ (c = a ∧ z = { x with peer := b, paired := true }) ∨ (c ≠ a ∧ c ≠ b ∧ hfind M c = some z) := fun c z hz => by
    rw [f2] at hz
    split at hz
    · rename_i e; exact .inl ⟨e, (Option.some.inj hz).symm⟩
    · rename_i e
      rw [f1] at hz
      split at hz
      · rename_i e2; exact .inr (.inl ⟨e2, (Option.some.inj hz).symm⟩)
      · rename_i e2; exact .inr (.inr ⟨e2, e, hz⟩)
  have no : ∀ c z, hfind M c = some z → c ≠ a → c ≠ b → z.peer ≠ a ∧ z.peer ≠ b := fun c z hz h1 h2 => by
    have iz := h.ids c z hz
    refine ⟨fun e => ?_, fun e => ?_⟩
    · have := h.sym c z x hz (by rw [e]; exact hx)
      rw [ux.2 hpx] at this; omega
    · have := h.sym c z y hz (by rw [e]; exact hy)
      rw [uy.2 hpy] at this; omega
  refine ⟨Nd.upd (x := y) n1 hyi, fun c z hz => ?_, fun c z hz => ?_, fun c z hz => ?_, fun c z q hz hq => ?_, fun c z hz => ?_, by omega, ⟨h.en.1, fun e he => ?_⟩, by rw [l2, l1]; exact h.cnt, by rw [b2, b1]; have := h.bb; omega⟩
  · rcases look c z hz with ⟨e, _⟩ | ⟨e, _⟩ | ⟨_, _, h1⟩
    · omega
    · omega
    · exact h.ids c z h1
  · rcases look c z hz with ⟨_, rfl⟩ | ⟨_, rfl⟩ | ⟨_, _, h1⟩
    · exact h.held b y hy
    · exact h.held a x hx
    · exact h.held c z h1
  · rw [b2, b1]
    rcases look c z hz with ⟨_, rfl⟩ | ⟨_, rfl⟩ | ⟨_, _, h1⟩
    · have := h.bnd b y hy; simp only; omega
    · have := h.bnd a x hx; simp only; omega
    · have := h.bnd c z h1; omega
  · rcases look c z hz with ⟨e, rfl⟩ | ⟨e, rfl⟩ | ⟨e1, e2, h1⟩
    · rcases look _ q hq with ⟨e', rfl⟩ | ⟨_, rfl⟩ | ⟨e', _, _⟩
      · exact absurd e' hab
      · exact e.symm
      · exact absurd rfl e'
    · rcases look _ q hq with ⟨_, rfl⟩ | ⟨e', rfl⟩ | ⟨_, e', _⟩
      · exact e.symm
      · exact absurd e'.symm hab
      · exact absurd rfl e'
    · obtain ⟨n1, n2⟩ := no c z h1 e1 e2
      rcases look _ q hq with ⟨e', _⟩ | ⟨e', _⟩ | ⟨_, _, h2⟩
      · exact absurd e' n2
      · exact absurd e' n1
      · exact h.sym c z q h1 h2
  · rcases look c z hz with ⟨_, rfl⟩ | ⟨_, rfl⟩ | ⟨_, _, h1⟩
    · exact ⟨by simp only; omega, fun h => by cases h⟩
    · exact ⟨by simp only; omega, fun h => by cases h⟩
    · exact h.unp c z h1
  · have := h.en.2 e he
    refine ⟨?_, this.2⟩
    rw [f2, if_neg (fun e' => by rw [e', hy] at this; cases this.1), f1, if_neg (fun e' => by rw [e', hx] at this; cases this.1)]
    exact this.1
theorem HI.carry {id : Int} {x : Hd} {l : List Int} {v : Value} (h : HI t last M E) (ht : t ≤ 100) (hl : l.length ≤ 20) (hx : hfind M id = some x) (hsp : ∀ c ∈ l, ∃ z, hfind M c = some z ∧ l.count c ≤ z.refs) (hni : id ∉ l) :
    HI (t + 1) last ({ x with bv := v, bag := x.bag ++ l, crs := ((x.bag ++ l).length : Nat) } :: rmH id (l.foldl carF M)) E := by
  have hS := fun a z (hz : hfind M a = some z) => h.small ht hz
  have hg := cars_get l hS (by omega)
  have hc0 : l.count id = 0 := List.count_eq_zero.2 hni
  have hn := cars_nd l h.nd
  have hx2 : hfind (l.foldl carF M) id = some x := by rw [hn.2.2.2.2 id hni]; exact hx
  have hb : bt ({ x with bv := v, bag := x.bag ++ l, crs := ((x.bag ++ l).length : Nat) } :: rmH id (l.foldl carF M)) = bt M + l.length := by
    have := bt_rm hn.1 hx2
    have := hn.2.2.1
    rw [bt_cons]
    simp only [List.length_append]
    omega
  have hbb := h.bb
  refine h.turn (Nd.upd (x := x) hn.1 (hfind_id hx).1) ((set_len hn.1 hx2).trans hn.2.1) (by omega) fun a => ⟨fun ha => ?_, fun z hz => ?_⟩
  · rw [hfind_upd (y := { x with bv := v, bag := x.bag ++ l, crs := ((x.bag ++ l).length : Nat) }) (hfind_id hx).1]
    split
    · rename_i e; rw [e, hx] at ha; cases ha
    · rw [hg, ha]; rfl
  · rw [hfind_upd (y := { x with bv := v, bag := x.bag ++ l, crs := ((x.bag ++ l).length : Nat) }) (hfind_id hx).1, hb]
    split
    · rename_i e
      rw [e, hx] at hz
      obtain rfl := Option.some.inj hz
      have := h.bnd id x hx
      have h2 := h.held id x hx
      exact ⟨_, rfl, rfl, rfl, h2, by simp only; omega, by simp only; omega, by simp only; omega, by simp only; omega⟩
    · rw [hg, hz]
      have h1 := h.bnd a z hz
      have h2 := h.held a z hz
      have h3 : l.count a ≤ l.length := List.count_le_length
      have h4 : (l.count a : Int) ≤ z.refs := by
        by_cases e : a ∈ l
        · obtain ⟨z', h5, h6⟩ := hsp a e
          rw [hz] at h5
          obtain rfl := Option.some.inj h5
          exact h6
        · rw [List.count_eq_zero.2 e]; omega
      exact ⟨_, rfl, rfl, rfl, by simp only; omega, by simp only; omega, by simp only; omega, by simp only; omega, by simp only; omega⟩
theorem HI.hand {id : Int} {x : Hd} {l left : List Int} {v : Value} (h : HI t last M E) (ht : t ≤ 100) (hl : l.length ≤ 20) (hx : hfind M id = some x) (hle : left.length + l.length = x.bag.length) :
    HI (t + 1) last (l.foldl hanF ({ x with bv := v, bag := left, crs := (left.length : Nat) } :: rmH id M)) E := by
  have hx2 := hfind_upd (S := M) (id := id) (y := { x with bv := v, bag := left, crs := (left.length : Nat) }) (hfind_id hx).1
  have n1 : Nd ({ x with bv := v, bag := left, crs := (left.length : Nat) } :: rmH id M) := Nd.upd (x := x) h.nd (hfind_id hx).1
  have l1 : ({ x with bv := v, bag := left, crs := (left.length : Nat) } :: rmH id M).length = M.length := set_len h.nd hx
  have hS : ∀ a z, hfind ({ x with bv := v, bag := left, crs := (left.length : Nat) } :: rmH id M) a = some z → Sm 5000 z := fun a z hz => by
    rw [hx2] at hz
    split at hz
    · obtain rfl := Option.some.inj hz
      have := h.small ht hx
      unfold Sm at *
      exact this
    · exact h.small ht hz
  have hg := hans_get l hS (by omega)
  have hn := hans_nd l n1
  have hb : bt (l.foldl hanF ({ x with bv := v, bag := left, crs := (left.length : Nat) } :: rmH id M)) + l.length = bt M := by
    rw [hn.2.2.1, bt_cons]
    have := bt_rm h.nd hx
    simp only
    omega
  have hbb := h.bb
  refine h.turn hn.1 (hn.2.1.trans l1) (by omega) fun a => ⟨fun ha => ?_, fun z hz => ?_⟩
  · rw [hg, hx2]
    split
    · rename_i e; rw [e, hx] at ha; cases ha
    · rw [ha]; rfl
  · have h1 := h.bnd a z hz
    have h2 := h.held a z hz
    have h3 : l.count a ≤ l.length := List.count_le_length
    rw [hg, hx2]
    split
    · rename_i e
      rw [e, hx] at hz
      obtain rfl := Option.some.inj hz
      exact ⟨_, rfl, rfl, rfl, by simp only; omega, by simp only; omega, by simp only; omega, by simp only; omega, by simp only; omega⟩
    · rw [hz]
      exact ⟨_, rfl, rfl, rfl, by simp only; omega, by simp only; omega, by simp only; omega, by simp only; omega, by simp only; omega⟩
/-- A sweep behind other numbers (N): the same peers; what is not held any more is in the work. -/
theorem HI.sweep {N : List Hd} {l : List Int} {n : Nat} {M' : List Hd} {out : List Ev} (h : HI t last M E) (ht : t ≤ 100) (hn : Nd N) (hl : N.length = M.length) (hbN : bt N = bt M)
    (hg : ∀ a, (hfind M a = none → hfind N a = none) ∧ ∀ x, hfind M a = some x → ∃ y, hfind N a = some y ∧ y.peer = x.peer ∧ y.paired = x.paired ∧ (heldB y = true ∨ a ∈ l) ∧ (0 ≤ y.refs ∧ y.refs ≤ x.refs) ∧ (0 ≤ y.pins ∧ y.pins ≤ x.pins) ∧ y.car = x.car)
    (hs : swN n N l [] = some (M', out)) :
    HI (t + 1) last M' (E ++ ends out) ∧ (∀ e ∈ out, hfind M e.o ≠ none) ∧ (ends out).Nodup ∧ (∀ e ∈ ends out, e ∉ E) ∧ ∀ e ∈ ends out, ∃ x, hfind M e = some x ∧ ∀ p, hfind M' x.peer = some p → p.peer = 0 ∧ b4 p.shows := by
  have back : ∀ a y, hfind N a = some y → ∃ x, hfind M a = some x ∧ y.peer = x.peer ∧ y.paired = x.paired ∧ (heldB y = true ∨ a ∈ l) ∧ (0 ≤ y.refs ∧ y.refs ≤ x.refs) ∧ (0 ≤ y.pins ∧ y.pins ≤ x.pins) ∧ y.car = x.car := fun a y hy => by
    cases hx : hfind M a with
    | none => rw [(hg a).1 hx] at hy; cases hy
    | some x =>
      obtain ⟨y', h1, h2⟩ := (hg a).2 x hx
      rw [hy] at h1
      obtain rfl := Option.some.inj h1
      exact ⟨x, rfl, h2⟩
  have hNM : ∀ a, hfind N a = none → hfind M a = none := fun a ha => by
    cases hx : hfind M a with
    | none => rfl
    | some x =>
      obtain ⟨y, h1, _⟩ := (hg a).2 x hx
      rw [ha] at h1; cases h1
  have hS0 : S0 N := ⟨fun a x y hx hy => by
    obtain ⟨x0, h1, h2, _⟩ := back a x hx
    obtain ⟨y0, g1, g2, _⟩ := back _ y hy
    rw [g2]
    exact h.sym a x0 y0 h1 (by rw [← h2]; exact g1), (hg 0).1 h.z0⟩
  have hSI : SI (30 * t) (30 * t) 0 N N l [] := ⟨hn, fun y hy => ⟨y, hfind_mem hn hy, rfl, rfl, rfl, .inl rfl⟩, fun y hy => by
    obtain ⟨x, h1, _, _, _, _, _, h7⟩ := back _ y (hfind_mem hn hy)
    have := h.bnd _ x h1
    rw [hbN]; omega, fun y hy => by
    obtain ⟨x, h1, _, _, h4, _⟩ := back _ y (hfind_mem hn hy)
    exact h4, by simp, by simp, by simp, by simp⟩
  obtain ⟨hI, hev⟩ := SI.run (by omega) hS0 n hSI (by simp) hs
  have hMev : ∀ e ∈ out, hfind M e.o ≠ none := fun e he hno => hev e he ((hg _).1 hno)
  have sub : ∀ a y, hfind M' a = some y → ∃ x, hfind M a = some x ∧ y.paired = x.paired ∧ (0 ≤ y.refs ∧ y.refs ≤ x.refs) ∧ (0 ≤ y.pins ∧ y.pins ≤ x.pins) ∧ (y.peer = x.peer ∨ (y.peer = 0 ∧ hfind M' x.peer = none)) := fun a y hy => by
    have hyi := hfind_id hy
    obtain ⟨y0, h1, h2, h3, h4, h5⟩ := hI.sub y hyi.2
    rw [hyi.1] at h1
    obtain ⟨x, g1, g2, g3, g4, g5, g6, g7⟩ := back a y0 h1
    exact ⟨x, g1, h2.trans g3, by omega, by omega, by rw [← g2]; exact h5⟩
  have hdisj : ∀ e ∈ ends out, e ∉ E := fun e he hE => by
    obtain ⟨z0, h1, _⟩ := hI.end1 e he
    rw [(hg e).1 (h.en.2 e hE).1] at h1; cases h1
  refine ⟨⟨hI.nd, fun a y hy => ?_, fun a y hy => ?_, fun a y hy => ?_, fun a x y hx hy => ?_, fun a y hy => ?_, by have := h.la; omega, ⟨?_, fun e he => ?_⟩, ?_, ?_⟩, hMev, hI.zn, hdisj, fun e he => ?_⟩
  · obtain ⟨x, h1, _⟩ := sub a y hy
    exact h.ids a x h1
  · obtain ⟨x, h1, h2, h3, h4, _⟩ := sub a y hy
    have hyi := hfind_id hy
    have hb := hI.bnd y hyi.2
    have hx := h.bnd a x h1
    have hh : heldB y = true := (hI.held y hyi.2).resolve_right (by simp)
    rw [held_b (by omega) (by omega) (by omega)] at hh
    simpa using hh
  · obtain ⟨x, h1, h2, h3, h4, _⟩ := sub a y hy
    have hb := hI.bnd y (hfind_id hy).2
    have hx := h.bnd a x h1
    omega
  · obtain ⟨x0, h1, _, _, _, h5⟩ := sub a x hx
    obtain ⟨y0, g1, _, _, _, g5⟩ := sub _ y hy
    have ia := h.ids a x0 h1
    have ip := h.ids _ y0 g1
    rcases h5 with h5 | ⟨h5, _⟩
    · have hs := h.sym a x0 y0 h1 (by rw [← h5]; exact g1)
      rcases g5 with g5 | ⟨_, g6⟩
      · rw [g5]; exact hs
      · rw [hs, hx] at g6; cases g6
    · omega
  · obtain ⟨x0, h1, h2, _, _, h5⟩ := sub a y hy
    have hu := h.unp a x0 h1
    have hla := h.la
    rcases h5 with h5 | ⟨h5, _⟩
    · rw [h5, h2]; exact hu
    · exact ⟨by omega, fun _ => h5⟩
  · rw [List.nodup_append]
    exact ⟨h.en.1, hI.zn, fun a ha b hb e => hdisj b hb (by rw [← e]; exact ha)⟩
  · rcases List.mem_append.1 he with he | he
    · exact ⟨hI.none_of ((hg e).1 (h.en.2 e he).1), (h.en.2 e he).2⟩
    · obtain ⟨z0, h1, h2, _⟩ := hI.end1 e he
      obtain ⟨x, g1, _⟩ := back e z0 h1
      exact ⟨h2, (h.ids e x g1).2⟩
  · have h1 := hI.cnt
    have h2 := h.cnt
    rw [List.length_append]
    omega
  · have h1 := hI.btl
    have h2 := h.bb
    omega
  · obtain ⟨z0, h1, h2, h3⟩ := hI.end1 e he
    obtain ⟨x, g1, g2, _⟩ := back e z0 h1
    exact ⟨x, g1, by rw [← g2]; exact h3⟩
theorem HI.unref {l : List Int} {n : Nat} {M' : List Hd} {out : List Ev} (h : HI t last M E) (ht : t ≤ 100) (hl : l.length ≤ 20) (hall : ∀ id ∈ l, ∃ x, hfind M id = some x ∧ l.count id ≤ x.refs)
    (hs : swN n (l.foldl refF M) l [] = some (M', out)) :
    HI (t + 1) last M' (E ++ ends out) ∧ (∀ e ∈ out, hfind M e.o ≠ none) ∧ (ends out).Nodup ∧ (∀ e ∈ ends out, e ∉ E) ∧ ∀ e ∈ ends out, ∃ x, hfind M e = some x ∧ ∀ p, hfind M' x.peer = some p → p.peer = 0 ∧ b4 p.shows := by
  have hn := refs_nd l h.nd
  have hg := refs_get l (fun a z (hz : hfind M a = some z) => h.small ht hz) (by omega)
  refine h.sweep ht hn.1 hn.2.1 hn.2.2.1 (fun a => ⟨fun ha => by rw [hg, ha]; rfl, fun x hx => ?_⟩) hs
  have h1 := h.bnd a x hx
  rw [hg, hx]
  by_cases e : a ∈ l
  · obtain ⟨x', h2, h3⟩ := hall a e
    rw [hx] at h2
    obtain rfl := Option.some.inj h2
    exact ⟨_, rfl, rfl, rfl, .inr e, by simp only; omega, by simp only; omega, rfl⟩
  · have h0 : l.count a = 0 := List.count_eq_zero.2 e
    refine ⟨_, rfl, rfl, rfl, .inl ?_, by simp only; omega, by simp only; omega, rfl⟩
    rw [h0]
    simp only [Int.natCast_zero, Int.sub_zero]
    exact h.heldT ht hx
theorem HI.unpin {id : Int} {x : Hd} {n : Nat} {M' : List Hd} {out : List Ev} (h : HI t last M E) (ht : t ≤ 100) (hx : hfind M id = some x) (hp : x.pins ≠ 0)
    (hs : swN n ({ x with pins := IntKind.i64.wrap (x.pins - 1) } :: rmH id M) [id] [] = some (M', out)) :
    HI (t + 1) last M' (E ++ ends out) ∧ (∀ e ∈ out, hfind M e.o ≠ none) ∧ (ends out).Nodup ∧ (∀ e ∈ ends out, e ∉ E) ∧ ∀ e ∈ ends out, ∃ x, hfind M e = some x ∧ ∀ p, hfind M' x.peer = some p → p.peer = 0 ∧ b4 p.shows := by
  have h1 := h.bnd id x hx
  rw [w64 (by omega) (by omega)] at hs
  refine h.sweep (N := { x with pins := x.pins - 1 } :: rmH id M) (l := [id]) ht (Nd.upd (x := x) h.nd (hfind_id hx).1) (set_len h.nd hx) (bt_set h.nd hx rfl) (fun a => ⟨fun ha => ?_, fun z hz => ?_⟩) hs
  · rw [hfind_upd (y := { x with pins := x.pins - 1 }) (hfind_id hx).1]
    split
    · rename_i e; rw [e, hx] at ha; cases ha
    · exact ha
  · rw [hfind_upd (y := { x with pins := x.pins - 1 }) (hfind_id hx).1]
    split
    · rename_i e
      rw [e, hx] at hz
      obtain rfl := Option.some.inj hz
      exact ⟨_, rfl, rfl, rfl, .inr (by simp [e]), by simp only; omega, by simp only; omega, rfl⟩
    · have h2 := h.bnd a z hz
      exact ⟨z, hz, rfl, rfl, .inl (h.heldT ht hz), by omega, by omega, rfl⟩
end
end Go.Proofs.YtbbenmflickapaaDoor
