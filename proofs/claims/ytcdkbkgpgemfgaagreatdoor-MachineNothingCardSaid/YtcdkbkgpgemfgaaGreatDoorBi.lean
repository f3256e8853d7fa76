/- What a code asks is enough for the machine's steps. -/
import Derived.Test.YtcdkbkgpgemfgaaGreatDoorBg
import Derived.ControlIn
import Derived.Scope
namespace Go.Jac
open Go

/-! ### What is written, what is read ahead of being written -/
def mods : Code → List Nat
  | .region _ ops _ => dsts ops.toList
  | .seq a b => mods a ++ mods b
  | .cond _ a b => mods a ++ mods b
  | .block _ c => mods c
  | .loop c => mods c
  | .scope c => mods c
  | .rangeFunc .. => [MK]
  | _ => []
def must : Code → List Nat
  | .region _ ops _ => dsts ops.toList
  | .seq a b => must a ++ must b
  | _ => []
def ue : Code → List Nat
  | .region _ ops _ => ueOps ops.toList ops.toList []
  | .seq a b => ue a ++ notIn (must a) (ue b)
  | .cond c a b => rdOf c ++ (ue a ++ ue b)
  | .block _ c => ue c
  | .loop c => ue c
  | .scope c => ue c
  | .rangeFunc f _ a b => rdOf f ++ (ue a ++ notIn (must a) (ue b))
  | _ => []
def nex (id : Nat) : Code → Nat
  | .exit i => cond (Nat.beq i id) 1 0
  | .seq a b => nex id a + nex id b
  | .cond _ a b => nex id a + nex id b
  | .block _ c => nex id c
  | .loop c => nex id c
  | _ => 0
def leaves : Code → Nat
  | .region .. => 1
  | .skip => 1
  | .label _ => 1
  | .seq a b => leaves a * leaves b
  | .cond _ a b => leaves a + leaves b
  | .block id c => leaves c + nex id c
  | .rangeFunc .. => 1
  | _ => 0
def csize : Code → Nat
  | .region _ ops _ => ops.toList.length
  | .seq a b => csize a + csize b
  | .cond _ a b => csize a + csize b
  | .block _ c => csize c
  | .loop c => csize c + 100
  | .rangeFunc _ _ _ _ => 100
  | _ => 0
def joinN (a b : Code) : Bool := cond (Nat.blt 1 (leaves a)) (Nat.blt 16 (csize b)) false

/-! ### Loops and places where ways meet -/
def thenX (N : Env → WP) (Q : Exit → Env → WP) (e : Exit) (ρ : Env) : WP := let _t := Tall; match e with
  | .normal => N ρ
  | e => Q e ρ
def blockX (id : Nat) (Q : Exit → Env → WP) (e : Exit) (ρ : Env) : WP := let _t := Tall; match e with
  | .exit i => condW (Nat.beq i id) (Q .normal ρ) (Q (.exit i) ρ)
  | e => Q e ρ

/-! ### A range over a function -/
def isLp (w : World) (l : Nat) (r : Loop) : Prop := w.heap[l]? = some (.loop r)
def World.put' (w : World) (l : Nat) (o : Obj) : World := { w with heap := w.heap.setIfInBounds l o }
/-- A round begins: the record is ready, and is busy from here on. -/
def RBeg (l : Nat) (K : WP) : WP := fun w => ∃ r, isLp w l r ∧ r.state = .ready ∧ K (World.put' w l (.loop { r with state := .busy }))
/-- A round ends, by a jump or by none. -/
def REnd (l : Nat) (jump : Option Code) (K : Value → WP) : WP := fun w =>
  ∃ r, isLp w l r ∧ K (.bool jump.isNone) (World.put' w l (.loop { r with state := if jump.isNone then .ready else .done, pending := jump }))
/-- What a round of the loop does, for whoever calls its yield. -/
def RoundOf (P : Program) (r0 : Loop) (rd : Nat → List Value → (Value → WP) → WP) : Prop :=
  ∀ (l : Nat) (r : Loop) (args : List Value) (K : Value → WP) (w : World), isLp w l r → r.fn = r0.fn → r.tmps = r0.tmps → r.params = r0.params → r.assign = r0.assign → r.body = r0.body →
    rd l args K w → ∀ A : Array Value, A = args.toArray → FnV P (.func (.yield l) #[] #[]) A K w
def sameLp (r r0 : Loop) : Prop := r.fn = r0.fn ∧ r.tmps = r0.tmps ∧ r.params = r0.params ∧ r.assign = r0.assign ∧ r.body = r0.body ∧ r.defers = r0.defers
/-- The statement: f is called with a yield; behind it the pending jump is made. -/
def RF0 (P : Program) (f : Value) (rd : Nat → List Value → (Value → WP) → WP) (K : Value → Option Code → WP) : WP := fun w =>
  ∃ k caps, f = .func (.func k) #[] caps ∧ (∀ args w, (callFunc k args).run P w = .ok (.enter k args) w) ∧
    ∀ r0 : Loop, r0.state = .ready → r0.pending = none → r0.defers = w.heap.size → RoundOf P r0 rd →
      Cl P k (#[.func (.yield (w.heap.size + 1)) #[] #[]] ++ caps) (fun _ w3 => ∃ r, isLp w3 (w.heap.size + 1) r ∧ sameLp r r0 ∧ r.state ≠ .busy ∧ K (.pointer (some ⟨w.heap.size, 0, none⟩)) r.pending (World.put' w3 (w.heap.size + 1) (.loop { r with state := .exhausted })))
        { w with heap := (w.heap.push (.deferred (some []))).push (.loop r0) }
def RF1 (P : Program) (l0 : Nat) (f : Value) (rd : Nat → List Value → (Value → WP) → WP) (K : Option Code → WP) : WP := fun w =>
  ∃ k caps rr, f = .func (.func k) #[] caps ∧ (∀ args w, (callFunc k args).run P w = .ok (.enter k args) w) ∧ isLp w l0 rr ∧
    ∀ r0 : Loop, r0.state = .ready → r0.pending = none → r0.defers = rr.defers → RoundOf P r0 rd →
      Cl P k (#[.func (.yield w.heap.size) #[] #[]] ++ caps) (fun _ w3 => ∃ r, isLp w3 w.heap.size r ∧ sameLp r r0 ∧ r.state ≠ .busy ∧ K r.pending (World.put' w3 w.heap.size (.loop { r with state := .exhausted })))
        { w with heap := w.heap.push (.loop r0) }
def exitsOf : Code → List Nat
  | .exit i => [i]
  | .seq a b => exitsOf a ++ exitsOf b
  | .cond _ a b => exitsOf a ++ exitsOf b
  | .block _ c => exitsOf c
  | .loop c => exitsOf c
  | .scope c => exitsOf c
  | .rangeFunc _ _ a b => exitsOf a ++ exitsOf b
  | _ => []
def exSel : List Nat → (Nat → WP) → Nat → WP
  | [], _, _ => fun _ => False
  | x :: r, Q, i => condW (Nat.beq i x) (Q x) (exSel r Q i)
def JumpC (j : Option Code) (N R : WP) (X : Nat → WP) : WP := fun w => match j with
  | none => N w
  | some .ret => R w
  | some (.exit i) => X i w
  | _ => False
def Env.puts (ρ : Env) : List Nat → List Value → Env
  | i :: r, v :: vs => (ρ.upd i (dy v)).puts r vs
  | _, _ => ρ
def addMark (m v : Value) : Value := match m with
  | .tuple vs => .tuple (v :: vs.toList).toArray
  | _ => .tuple #[v]

/-- The operations of the code, in its order, told over an environment. -/
def W (P : Program) (n : Nat) : Code → Option Nat → List Nat → Env → (Exit → Env → WP) → WP
  | .skip, _, _, ρ, Q => Q .normal ρ
  | .label _, _, _, ρ, Q => Q .normal ρ
  | .ret, _, _, ρ, Q => Q .ret ρ
  | .exit i, _, _, ρ, Q => Q (.exit i) ρ
  | .region _ ops false, _, _, ρ, Q => WOps P ops.toList ops.toList ρ (Q .normal)
  | .region _ ops true, _, A, ρ, Q => condW (drawOk ops.toList) (fun w => WDr P ops.toList (bef ops.toList []) A (segs (bef ops.toList []) ops.toList 0 []) 0 ρ (Q .normal) { w with drawn := w.drawn + 1 }) (fun _ => False)
  | .seq a b, ro, A, ρ, Q => condW (joinN a b)
      (JoinC (fun vs w => ∀ j : Env, unp (liveL (mods a) (ue b ++ A)) vs (mix (mods a) j ρ) (fun ρ' => W P n b ro A ρ' Q) w)
        (fun K => W P n a ro (ue b ++ A) ρ (thenX (fun ρ' => K (vals ρ' (liveL (mods a) (ue b ++ A)))) Q)))
      (W P n a ro (ue b ++ A) ρ (thenX (fun ρ' => W P n b ro A ρ' Q) Q))
  | .cond c a b, ro, A, ρ, Q => CndW (evS ρ c) (W P n a ro A ρ Q) (W P n b ro A ρ Q)
  | .block id c, ro, A, ρ, Q => W P n c ro A ρ (blockX id Q)
  | .scope c, ro, A, ρ, Q => W P n c ro A ρ Q
  | .loop c, ro, A, ρ, Q =>
      LoopC (vals ρ (liveL (mods c) (ue c ++ A))) fun K vs w => ∀ j : Env, unp (liveL (mods c) (ue c ++ A)) vs (mix (mods c) j ρ) (fun ρ' => W P n c ro (ue c ++ A) ρ' (thenX (fun ρ'' => K (vals ρ'' (liveL (mods c) (ue c ++ A)))) Q)) w
  | .rangeFunc f ps a b, none, _, ρ, Q =>
      RF0 P (ev ρ f) (fun l args K => unpX ps.toList args (ρ.upd MK (dy (.tuple #[]))) fun ρ0 => W P n a (some l) (ue b) ρ0 (thenX (fun ρ1 => RBeg l (W P n b (some l) [] ρ1 fun e _ => match e with
          | .normal => REnd l none K
          | .ret => REnd l (some .ret) K
          | .exit i => REnd l (some (.exit i)) K
          | _ => fun _ => False)) (fun _ _ _ => False)))
        fun m j => JumpC j (Q .normal (ρ.upd MK (dy (addMark (ρ MK).v m)))) (Q .ret (ρ.upd MK (dy (addMark (ρ MK).v m)))) (exSel (exitsOf b) fun i => Q (.exit i) (ρ.upd MK (dy (addMark (ρ MK).v m))))
  | .rangeFunc f ps a b, some l0, _, ρ, Q =>
      RF1 P l0 (ev ρ f) (fun l args K => unpX ps.toList args (ρ.upd MK (dy (.tuple #[]))) fun ρ0 => W P n a (some l) (ue b) ρ0 (thenX (fun ρ1 => RBeg l (W P n b (some l) [] ρ1 fun e _ => match e with
          | .normal => REnd l none K
          | .ret => REnd l (some .ret) K
          | .exit i => REnd l (some (.exit i)) K
          | _ => fun _ => False)) (fun _ _ _ => False)))
        fun j => JumpC j (Q .normal ρ) (Q .ret ρ) (exSel (exitsOf b) fun i => Q (.exit i) ρ)
  | _, _, _, _, _ => fun _ => False
end Go.Jac
namespace Go
section
variable {F : Fence} {n : Nat} {P : Program} {b : Frame} {a : Act} {k : List Item} {cs : List Frame} {w : World} {Q : Exit → Act → World → Prop}
theorem stepR_scope {c : Code} : step P (lone (b.atR a (.code (.scope c) :: k)) cs w) = .next (lone (b.atR a (.code c :: .inScope c :: k)) cs w) :=
  step_lone_go (by simp [stepG, stepG.exec, Frame.atR])
theorem stepR_inScope {c : Code} : step P (lone (b.atR a (.inScope c :: k)) cs w) = .next (lone (b.atR a k) cs w) :=
  step_lone_go (by simp [stepG, stepG.exec, Frame.atR])
theorem wpIn_scope {c : Code} (h : c.wpIn F n P (Exit.noGoto Q) a w) : (Code.scope c).wpIn F n P Q a w := by
  intro b k cs hro hb hr
  have h0 : (lone (b.atR a (.code (.scope c) :: k)) cs w).fenced P F := fenced_calm hb hr rfl
  obtain ⟨e, a₁, w₁, hq, harr⟩ := h b (.inScope c :: k) cs hro hb hr
  cases e with
  | normal => exact ⟨.normal, a₁, w₁, hq, .head h0 stepR_scope (StepsIn.trans harr (.one (fenced_calm hb hr rfl) stepR_inScope))⟩
  | exit id =>
    have hx : exitTo id (.inScope c :: k) = exitTo id k := by simp [exitTo]
    exact ⟨.exit id, a₁, w₁, hq, fun k' hk => .head h0 stepR_scope (harr.1 k' (by rw [hx]; exact hk)),
      fun hr' hk => let ⟨k₁, h1, h2⟩ := harr.2 hr' (by rw [hx]; exact hk); ⟨k₁, h1, .head h0 stepR_scope h2⟩⟩
  | goto l => exact hq.elim
  | ret => exact ⟨_, a₁, w₁, hq, .of_steps (.one h0 stepR_scope) harr⟩
  | panic ch => exact ⟨_, a₁, w₁, hq, .of_steps (.one h0 stepR_scope) harr⟩
  | outgrown => exact ⟨_, a₁, w₁, hq, .of_steps (.one h0 stepR_scope) harr⟩
end
end Go
namespace Go.Jac
open Go

section
variable {P : Program} {n : Nat}

def okX : Exit → Prop
  | .panic _ => False
  | .outgrown => False
  | .goto _ => False
  | _ => True
def Post (n : Nat) (ρ : Env) (md : List Nat) (Q : Exit → Env → WP) : Exit → Act → World → Prop := fun e a' w' =>
  okX e ∧ ∃ ρ', Agree n a' ρ'.val ∧ Gd ρ' ∧ (∀ i, i ∉ md → ρ'.val i = ρ.val i) ∧ Q e ρ' w'

theorem least {G : Type} (p : G → Nat → Prop) (h : ∃ g m, p g m) : ∃ m, (∃ g, p g m) ∧ ∀ g k, p g k → m ≤ k := by
  obtain ⟨g, m, hg⟩ := h
  induction m using Nat.strongRecOn generalizing g with
  | _ m ih =>
    by_cases hl : ∃ g' k, p g' k ∧ k < m
    · obtain ⟨g', k, hp, hk⟩ := hl
      exact ih k hk g' hp
    · refine ⟨m, ⟨g, hg⟩, fun g' k hp => ?_⟩
      rcases Nat.lt_or_ge k m with h1 | h1
      · exact absurd ⟨g', k, hp, h1⟩ hl
      · exact h1
theorem wpIn_loop_ghost {F : Fence} {k : Nat} {c : Code} {Q : Exit → Act → World → Prop} {a : Act} {w : World} {G : Type} (I : G → Act → World → Prop) (μ : G → World → Nat) (g₀ : G) (h₀ : I g₀ a w)
    (round : ∀ g a w, I g a w → c.wpIn F k P (Exit.then (fun a' w' => ∃ g', I g' a' w' ∧ μ g' w' < μ g w) Q) a w) : (Code.loop c).wpIn F k P Q a w := by
  have hl : ∀ a w, ∃ m, (∃ g, I g a w) → ((∃ g, I g a w ∧ μ g w = m) ∧ ∀ g, I g a w → m ≤ μ g w) := by
    intro a w
    by_cases h : ∃ g, I g a w
    · obtain ⟨g, hg⟩ := h
      obtain ⟨m, h1, h2⟩ := least (fun g m => I g a w ∧ μ g w = m) ⟨g, μ g w, hg, rfl⟩
      exact ⟨m, fun _ => ⟨h1, fun g' hg' => h2 g' _ ⟨hg', rfl⟩⟩⟩
    · exact ⟨0, fun h' => absurd h' h⟩
  refine wpIn_loop (fun a w => ∃ g, I g a w) (fun a w => Classical.choose (hl a w)) ⟨g₀, h₀⟩ ?_
  intro a w hI
  obtain ⟨⟨g, hg, hm⟩, _⟩ := Classical.choose_spec (hl a w) hI
  refine wpIn_mono (round g a w hg) fun e a' w' hq => ?_
  cases e with
  | normal =>
    obtain ⟨g', hg', hlt⟩ := hq
    obtain ⟨_, h2⟩ := Classical.choose_spec (hl a' w') ⟨g', hg'⟩
    refine ⟨⟨g', hg'⟩, ?_⟩
    have := h2 g' hg'
    omega
  | _ => exact hq

theorem CndW_cases {x : SV} (hg : x.Good) {t e : WP} {w : World} (h : CndW x t e w) : ∃ c, x.v = .bool c ∧ (cond c t e) w := by
  obtain ⟨k, v⟩ := x
  cases k with
  | tt => exact ⟨true, hg, h⟩
  | ff => exact ⟨false, hg, h⟩
  | un =>
    obtain ⟨c, hc, h1, h2⟩ := h
    exact absurd hc (hg c)
  | unk =>
    obtain ⟨c, hc, h1, h2⟩ := h
    cases c
    · exact ⟨false, hc, h2 rfl⟩
    · exact ⟨true, hc, h1 rfl⟩

theorem puts_agree (hn : n ≤ MK) : ∀ (ps : List Nat) (args : List Value) (t : Array Value) (d : List Deferred) (ρ : Env), Agree n { tmps := t, defers := d } ρ.val → tmpsOk n ps = true →
    Agree n { tmps := (ps.zip args).foldl (fun tmps (p : Nat × Value) => tmps.setIfInBounds p.1 p.2) t, defers := d } (ρ.puts ps args).val
  | [], args, t, d, ρ, h, _ => by cases args <;> exact h
  | i :: r, [], t, d, ρ, h, _ => h
  | i :: r, v :: vs, t, d, ρ, h, hp => by
    have h1 : Nat.blt i n = true := allB_iff.1 hp i (by simp)
    have h2 : tmpsOk n r = true := allB_iff.2 fun x hx => allB_iff.1 hp x (by simp [hx])
    exact puts_agree hn r vs _ d _ (by rw [Env.val_upd]; exact h.put hn (d := some i) v h1) h2

theorem unpX_out {B : Env → WP} {w : World} : ∀ (ps : List Nat) (args : List Value) (ρ : Env), unpX ps args ρ B w → args.length = ps.length ∧ B (ρ.puts ps args) w
  | [], [], ρ, h => ⟨rfl, h⟩
  | [], _ :: _, ρ, h => h.elim
  | i :: r, [], ρ, h => h.elim
  | i :: r, v :: vs, ρ, h => by
    obtain ⟨h1, h2⟩ := unpX_out r vs (ρ.upd i (dy v)) h
    exact ⟨by simp [h1], h2⟩
theorem puts_good : ∀ (ps : List Nat) (args : List Value) (ρ : Env), Gd ρ → Gd (ρ.puts ps args)
  | [], args, ρ, h => by cases args <;> exact h
  | i :: r, [], ρ, h => h
  | i :: r, v :: vs, ρ, h => puts_good r vs _ (h.upd i (good_dy v))
theorem puts_mk (hn : n ≤ MK) {v : SV} : ∀ (ps : List Nat) (args : List Value) (ρ : Env), tmpsOk n ps = true → ρ MK = v → ρ.puts ps args MK = v
  | [], args, ρ, _, h => by cases args <;> exact h
  | i :: r, [], ρ, _, h => h
  | i :: r, x :: vs, ρ, hp, h => by
    have h1 : i + 1 ≤ n := by simpa [Nat.blt] using allB_iff.1 hp i (by simp)
    have h2 : tmpsOk n r = true := allB_iff.2 fun x hx => allB_iff.1 hp x (by simp [hx])
    exact puts_mk hn r vs _ h2 (by rw [Env.upd_ne _ _ (by omega)]; exact h)

theorem exSel_out {Q : Nat → WP} {i : Nat} {w : World} : ∀ (l : List Nat), exSel l Q i w → Q i w
  | [], h => h.elim
  | x :: r, h => by
    rw [exSel] at h
    cases hb : Nat.beq i x with
    | true => rw [hb] at h; have := Nat.eq_of_beq_eq_true hb; subst this; exact h
    | false => rw [hb] at h; exact exSel_out r h
theorem jump_out {F : Fence} {k : Nat} {j : Option Code} {N R : WP} {X : Nat → WP} {w : World} {a : Act} {Q : Exit → Act → World → Prop} (h : JumpC j N R X w) (hN : N w → Q .normal a w) (hR : R w → Q .ret a w) (hX : ∀ i, X i w → Q (.exit i) a w) :
    (j = none → Q .normal a w) ∧ (∀ c, j = some c → c.wpIn F k P Q a w) := by
  cases j with
  | none => exact ⟨fun _ => hN h, (fun c hc => by cases hc)⟩
  | some c =>
    refine ⟨(fun hc => by cases hc), fun c' hc => ?_⟩
    cases hc
    cases c <;> (try exact h.elim)
    · exact wpIn_exit (hX _ h)
    · exact wpIn_ret (hR h)

theorem marks_add (m : Value) (r : Nat) (hm : ∃ vs, m = .tuple vs) : marksOf (addMark m (.pointer (some ⟨r, 0, none⟩))) = { target := .collected r, args := #[] } :: marksOf m := by
  obtain ⟨vs, rfl⟩ := hm
  simp [addMark, marksOf]

/-- A round, out of what its code asks. -/
theorem round_of {x y : Code} {ps : Array Tmp} {ρ : Env} {a : Act} (hn : n ≤ MK) (hA : Agree n a ρ.val) (hGd : Gd ρ) (hps : tmpsOk n ps.toList = true)
    (hx : ∀ (ro : Option Nat) (A : List Nat) (ρ : Env) (Q : Exit → Env → WP) (a : Act) (w : World), Agree n a ρ.val → Gd ρ → (∃ vs, (ρ MK).v = .tuple vs) → W P n x ro A ρ Q w → x.wpIn (FR ro) 0 P (fun e a' w' => Post n ρ (mods x) (fun e ρ' w' => (∃ vs, (ρ' MK).v = .tuple vs) ∧ Q e ρ' w') e a' w') a w)
    (hy : ∀ (ro : Option Nat) (A : List Nat) (ρ : Env) (Q : Exit → Env → WP) (a : Act) (w : World), Agree n a ρ.val → Gd ρ → (∃ vs, (ρ MK).v = .tuple vs) → W P n y ro A ρ Q w → y.wpIn (FR ro) 0 P (fun e a' w' => Post n ρ (mods y) (fun e ρ' w' => (∃ vs, (ρ' MK).v = .tuple vs) ∧ Q e ρ' w') e a' w') a w)
    (r0 : Loop) (h1 : r0.tmps = a.tmps) (h2 : r0.params = ps) (h3 : r0.assign = x) (h4 : r0.body = y) :
    RoundOf P r0 (fun l args K => unpX ps.toList args (ρ.upd MK (dy (.tuple #[]))) fun ρ0 => W P n x (some l) (ue y) ρ0 (thenX (fun ρ1 => RBeg l (W P n y (some l) [] ρ1 fun e _ => match e with
          | .normal => REnd l none K
          | .ret => REnd l (some .ret) K
          | .exit i => REnd l (some (.exit i)) K
          | _ => fun _ => False)) (fun _ _ _ => False))) := by
  rintro l r args K w hl e1 e2 e3 e4 e5 hrd A rfl
  obtain ⟨hlen, hw⟩ := unpX_out ps.toList args _ hrd
  replace hlen : args.length = ps.size := by simpa using hlen
  have hget : ∀ (w : World) (r : Loop), isLp w l r → (Instr.getLoop l).run P w = .ok r w := by
    intro w r h
    unfold Instr.getLoop
    have : w.heap[l]? = some (.loop r) := h
    simp [getObj, Sem.run, this]
  have hset : ∀ (w : World) (r : Loop) (o : Obj), isLp w l r → (setObj l o).run P w = .ok () (World.put' w l o) := by
    intro w r o h
    have : w.heap[l]? = some (.loop r) := h
    simp [setObj, Sem.run, this, World.put']
  let tm := (ps.toList.zip args).foldl (fun tmps (p : Nat × Value) => tmps.setIfInBounds p.1 p.2) a.tmps
  have htm : (r.params.zip args.toArray).foldl (fun tmps (t, a) => tmps.setIfInBounds t a) r.tmps = tm := by
    rw [e2, e3, h1, h2]
    rw [← Array.foldl_toList, Array.toList_zip]
  refine ⟨r.fn, tm, x, y, ?_, rfl, ?_⟩
  · unfold Instr.yield
    have : (#[] ++ args.toArray).size = r.params.size := by rw [e3, h2]; simpa using hlen
    simp only [Sem.run_bind, hget w r hl, Result.andThen_ok, this, ne_eq, not_true_eq_false, if_false, Sem.run_pure]
    rw [e4, h3, e5, h4]
    simp only [Array.empty_append, htm]
  · refine roundIn_of_wpIn (FR_fn none _) ?_
    have hA0 : Agree n { tmps := a.tmps, defers := [] } (ρ.upd MK (dy (.tuple #[]))).val := by
      rw [Env.val_upd]
      refine ⟨hA.size, fun i hi => ?_, ?_⟩
      · rw [VEnv.upd_ne _ _ (by omega)]; exact hA.tmp i hi
      · rw [VEnv.upd_same]; rfl
    refine wpIn_mono (hx (some l) _ _ _ _ _ (puts_agree hn ps.toList args a.tmps [] _ hA0 hps) (puts_good _ _ _ (hGd.upd MK (good_dy _))) ⟨#[], by rw [puts_mk hn ps.toList args _ hps (Env.upd_same _ _ _)]; rfl⟩ hw) ?_
    rintro e a1 w1 ⟨ho, ρ1, hA1, hG1, _, hM1, hq⟩
    cases e with
    | normal =>
      obtain ⟨r1, hl1, hst, hb⟩ := hq
      refine ⟨_, ?_, wpIn_mono (hy (some l) _ _ _ _ _ hA1 hG1 hM1 hb) ?_⟩
      · unfold Instr.beginRound
        simp only [Sem.run_bind, hget _ _ hl1, Result.andThen_ok, hset _ _ _ hl1, hst, Sem.run_pure]
      · rintro e2 a2 w2 ⟨ho2, ρ2, hA2, _, _, _, hq2⟩
        have hend : ∀ j : Option Code, REnd l j K w2 → ∃ v w', (Instr.endRound l j).run P w2 = .ok v w' ∧ ∃ v', Ending.returned v = .returned v' ∧ K v' w' := by
          rintro j ⟨r2, hl2, hk⟩
          refine ⟨_, _, ?_, _, rfl, hk⟩
          unfold Instr.endRound
          simp only [Sem.run_bind, hget _ _ hl2, Result.andThen_ok, hset _ _ _ hl2, Sem.run_pure]
        cases e2 with
        | normal => exact hend none hq2
        | ret => exact hend (some .ret) hq2
        | exit i => exact hend (some (.exit i)) hq2
        | goto t => exact hq2.elim
        | panic c => exact ho2.elim
        | outgrown => exact ho2.elim
    | _ => first | exact hq.elim | exact ho.elim
end
end Go.Jac
