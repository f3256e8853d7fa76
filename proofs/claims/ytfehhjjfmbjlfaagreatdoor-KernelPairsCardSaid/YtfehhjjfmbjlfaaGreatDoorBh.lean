/- What a function's code asks, and that this is enough. -/
import Derived.Test.YtfehhjjfmbjlfaaGreatDoorBg
namespace Go.Jac
open Go

/-! ### What is written, what is read ahead of being written -/
def mods : Code → List Nat
  | .region _ ops _ => dsts ops.toList
  | .seq a b => mods a ++ mods b
  | .cond _ a b => mods a ++ mods b
  | .block _ c => mods c
  | .loop c => mods c
  | .scope c => mods c
  | .rangeFunc .. => [MK]
  | _ => []
def must : Code → List Nat
  | .region _ ops _ => dsts ops.toList
  | .seq a b => must a ++ must b
  | _ => []
def ue : Code → List Nat
  | .region _ ops _ => ueOps ops.toList ops.toList []
  | .seq a b => ue a ++ notIn (must a) (ue b)
  | .cond c a b => rdOf c ++ (ue a ++ ue b)
  | .block _ c => ue c
  | .loop c => ue c
  | .scope c => ue c
  | .rangeFunc f _ a b => rdOf f ++ (ue a ++ notIn (must a) (ue b))
  | _ => []
def nex (id : Nat) : Code → Nat
  | .exit i => cond (Nat.beq i id) 1 0
  | .seq a b => nex id a + nex id b
  | .cond _ a b => nex id a + nex id b
  | .block _ c => nex id c
  | .loop c => nex id c
  | _ => 0
def leaves : Code → Nat
  | .region .. => 1
  | .skip => 1
  | .label _ => 1
  | .seq a b => leaves a * leaves b
  | .cond _ a b => leaves a + leaves b
  | .block id c => leaves c + nex id c
  | .rangeFunc .. => 1
  | _ => 0
def csize : Code → Nat
  | .region _ ops _ => ops.toList.length
  | .seq a b => csize a + csize b
  | .cond _ a b => csize a + csize b
  | .block _ c => csize c
  | .loop c => csize c + 100
  | .rangeFunc _ _ _ _ => 100
  | _ => 0
def joinN (a b : Code) : Bool := cond (Nat.blt 1 (leaves a)) (Nat.blt 16 (csize b)) false

/-! ### Loops and places where ways meet -/
def thenX (N : Env → WP) (Q : Exit → Env → WP) (e : Exit) (ρ : Env) : WP := let _t := Tall; match e with
  | .normal => N ρ
  | e => Q e ρ
def blockX (id : Nat) (Q : Exit → Env → WP) (e : Exit) (ρ : Env) : WP := let _t := Tall; match e with
  | .exit i => condW (Nat.beq i id) (Q .normal ρ) (Q (.exit i) ρ)
  | e => Q e ρ

/-! ### A range over a function -/
def isLp (w : World) (l : Nat) (r : Loop) : Prop := w.heap[l]? = some (.loop r)
def World.put' (w : World) (l : Nat) (o : Obj) : World := { w with heap := w.heap.setIfInBounds l o }
/-- A round begins: the record is ready, and is busy from here on. -/
def RBeg (l : Nat) (K : WP) : WP := fun w => ∃ r, isLp w l r ∧ r.state = .ready ∧ K (World.put' w l (.loop { r with state := .busy }))
/-- A round ends, by a jump or by none. -/
def REnd (l : Nat) (jump : Option Code) (K : Value → WP) : WP := fun w =>
  ∃ r, isLp w l r ∧ K (.bool jump.isNone) (World.put' w l (.loop { r with state := if jump.isNone then .ready else .done, pending := jump }))
/-- What a round of the loop does, for whoever calls its yield. -/
def RoundOf (P : Program) (r0 : Loop) (rd : Nat → List Value → (Value → WP) → WP) : Prop :=
  ∀ (l : Nat) (r : Loop) (args : List Value) (K : Value → WP) (w : World), isLp w l r → r.fn = r0.fn → r.tmps = r0.tmps → r.params = r0.params → r.assign = r0.assign → r.body = r0.body →
    rd l args K w → ∀ A : Array Value, A = args.toArray → FnV P (.func (.yield l) #[] #[]) A K w
def sameLp (r r0 : Loop) : Prop := r.fn = r0.fn ∧ r.tmps = r0.tmps ∧ r.params = r0.params ∧ r.assign = r0.assign ∧ r.body = r0.body ∧ r.defers = r0.defers
/-- The statement: f is called with a yield; behind it the pending jump is made. -/
def RF0 (P : Program) (f : Value) (rd : Nat → List Value → (Value → WP) → WP) (K : Value → Option Code → WP) : WP := fun w =>
  ∃ k caps, f = .func (.func k) #[] caps ∧ (∀ args w, (callFunc k args).run P w = .ok (.enter k args) w) ∧
    ∀ r0 : Loop, r0.state = .ready → r0.pending = none → r0.defers = w.heap.size → RoundOf P r0 rd →
      Cl P k (#[.func (.yield (w.heap.size + 1)) #[] #[]] ++ caps) (fun _ w3 => ∃ r, isLp w3 (w.heap.size + 1) r ∧ sameLp r r0 ∧ r.state ≠ .busy ∧ K (.pointer (some ⟨w.heap.size, 0, none⟩)) r.pending (World.put' w3 (w.heap.size + 1) (.loop { r with state := .exhausted })))
        { w with heap := (w.heap.push (.deferred (some []))).push (.loop r0) }
def RF1 (P : Program) (l0 : Nat) (f : Value) (rd : Nat → List Value → (Value → WP) → WP) (K : Option Code → WP) : WP := fun w =>
  ∃ k caps rr, f = .func (.func k) #[] caps ∧ (∀ args w, (callFunc k args).run P w = .ok (.enter k args) w) ∧ isLp w l0 rr ∧
    ∀ r0 : Loop, r0.state = .ready → r0.pending = none → r0.defers = rr.defers → RoundOf P r0 rd →
      Cl P k (#[.func (.yield w.heap.size) #[] #[]] ++ caps) (fun _ w3 => ∃ r, isLp w3 w.heap.size r ∧ sameLp r r0 ∧ r.state ≠ .busy ∧ K r.pending (World.put' w3 w.heap.size (.loop { r with state := .exhausted })))
        { w with heap := w.heap.push (.loop r0) }
def exitsOf : Code → List Nat
  | .exit i => [i]
  | .seq a b => exitsOf a ++ exitsOf b
  | .cond _ a b => exitsOf a ++ exitsOf b
  | .block _ c => exitsOf c
  | .loop c => exitsOf c
  | .scope c => exitsOf c
  | .rangeFunc _ _ a b => exitsOf a ++ exitsOf b
  | _ => []
def exSel : List Nat → (Nat → WP) → Nat → WP
  | [], _, _ => fun _ => False
  | x :: r, Q, i => condW (Nat.beq i x) (Q x) (exSel r Q i)
def JumpC (j : Option Code) (N R : WP) (X : Nat → WP) : WP := fun w => match j with
  | none => N w
  | some .ret => R w
  | some (.exit i) => X i w
  | _ => False
def Env.puts (ρ : Env) : List Nat → List Value → Env
  | i :: r, v :: vs => (ρ.upd i (dy v)).puts r vs
  | _, _ => ρ
def addMark (m v : Value) : Value := match m with
  | .tuple vs => .tuple (v :: vs.toList).toArray
  | _ => .tuple #[v]

/-- The operations of the code, in its order, told over an environment. -/
def W (P : Program) (n : Nat) : Code → Option Nat → List Nat → Env → (Exit → Env → WP) → WP
  | .skip, _, _, ρ, Q => Q .normal ρ
  | .label _, _, _, ρ, Q => Q .normal ρ
  | .ret, _, _, ρ, Q => Q .ret ρ
  | .exit i, _, _, ρ, Q => Q (.exit i) ρ
  | .region _ ops false, _, _, ρ, Q => WOps P ops.toList ops.toList ρ (Q .normal)
  | .region _ ops true, _, A, ρ, Q => condW (drawOk ops.toList) (fun w => WDr P ops.toList (bef ops.toList []) A (segs (bef ops.toList []) ops.toList 0 []) 0 ρ (Q .normal) { w with drawn := w.drawn + 1 }) (fun _ => False)
  | .seq a b, ro, A, ρ, Q => condW (joinN a b)
      (JoinC (fun vs w => ∀ j : Env, unp (liveL (mods a) (ue b ++ A)) vs (mix (mods a) j ρ) (fun ρ' => W P n b ro A ρ' Q) w)
        (fun K => W P n a ro (ue b ++ A) ρ (thenX (fun ρ' => K (vals ρ' (liveL (mods a) (ue b ++ A)))) Q)))
      (W P n a ro (ue b ++ A) ρ (thenX (fun ρ' => W P n b ro A ρ' Q) Q))
  | .cond c a b, ro, A, ρ, Q => CndW (evS ρ c) (W P n a ro A ρ Q) (W P n b ro A ρ Q)
  | .block id c, ro, A, ρ, Q => W P n c ro A ρ (blockX id Q)
  | .scope c, ro, A, ρ, Q => W P n c ro A ρ Q
  | .loop c, ro, A, ρ, Q =>
      LoopC (vals ρ (liveL (mods c) (ue c ++ A))) fun K vs w => ∀ j : Env, unp (liveL (mods c) (ue c ++ A)) vs (mix (mods c) j ρ) (fun ρ' => W P n c ro (ue c ++ A) ρ' (thenX (fun ρ'' => K (vals ρ'' (liveL (mods c) (ue c ++ A)))) Q)) w
  | .rangeFunc f ps a b, none, _, ρ, Q =>
      RF0 P (ev ρ f) (fun l args K => unpX ps.toList args (ρ.upd MK (dy (.tuple #[]))) fun ρ0 => W P n a (some l) (ue b) ρ0 (thenX (fun ρ1 => RBeg l (W P n b (some l) [] ρ1 fun e _ => match e with
          | .normal => REnd l none K
          | .ret => REnd l (some .ret) K
          | .exit i => REnd l (some (.exit i)) K
          | _ => fun _ => False)) (fun _ _ _ => False)))
        fun m j => JumpC j (Q .normal (ρ.upd MK (dy (addMark (ρ MK).v m)))) (Q .ret (ρ.upd MK (dy (addMark (ρ MK).v m)))) (exSel (exitsOf b) fun i => Q (.exit i) (ρ.upd MK (dy (addMark (ρ MK).v m))))
  | .rangeFunc f ps a b, some l0, _, ρ, Q =>
      RF1 P l0 (ev ρ f) (fun l args K => unpX ps.toList args (ρ.upd MK (dy (.tuple #[]))) fun ρ0 => W P n a (some l) (ue b) ρ0 (thenX (fun ρ1 => RBeg l (W P n b (some l) [] ρ1 fun e _ => match e with
          | .normal => REnd l none K
          | .ret => REnd l (some .ret) K
          | .exit i => REnd l (some (.exit i)) K
          | _ => fun _ => False)) (fun _ _ _ => False)))
        fun j => JumpC j (Q .normal ρ) (Q .ret ρ) (exSel (exitsOf b) fun i => Q (.exit i) ρ)
  | _, _, _, _, _ => fun _ => False
end Go.Jac
