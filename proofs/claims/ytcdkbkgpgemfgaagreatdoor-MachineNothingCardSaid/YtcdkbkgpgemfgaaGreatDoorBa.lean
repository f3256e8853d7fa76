/- The ground of this seat's proofs: what a function's code must do, told over an environment of temporaries (no activation, no steps). -/
import Derived.RangeFuncLeaves
import Derived.RangeFuncNested
import Derived.KernelRfl
import Derived.OrdersIn
import Derived.Deep.AppendSrc
import Derived.Deep.Upon
import Derived.Great.BuildSlice
import Derived.Laws.MakeOwn
namespace Go.Jac
open Go

abbrev WP := World → Prop
abbrev VEnv := Nat → Value

/-- The fence that shuts nothing out, in a round or not. -/
def FR (ro : Option Nat) : Fence := { Fence.wide with round := ro }
theorem FR_room (ro : Option Nat) (n : Nat) : (FR ro).room n := fun _ h => by simp [FR, Fence.wide] at h
theorem FR_fn (ro : Option Nat) (f : FuncId) : (FR ro).fn f := trivial
theorem FR_depth (ro : Option Nat) (n : Nat) : (FR ro).depth.isSome = true → 1 ≤ n := fun h => by simp [FR, Fence.wide] at h
theorem FR_round (ro : Option Nat) : (FR ro).round = ro := rfl

/-- A call that returns. -/
def Cl (P : Program) (f : FuncId) (args : Array Value) (K : Value → WP) : WP := fun w =>
  Calls P f args w fun e w' => ∃ v, e = .returned v ∧ K v w'
theorem Cl.mono {P : Program} {f : FuncId} {args : Array Value} {K K' : Value → WP} {w : World} (h : Cl P f args K w) (hk : ∀ v w', K v w' → K' v w') : Cl P f args K' w :=
  Calls.mono h fun _ w' ⟨v, he, hv⟩ => ⟨v, he, hk v w' hv⟩

theorem callsIn_of {ro : Option Nat} {n : Nat} {P : Program} {f : FuncId} {args : Array Value} {w : World} {R : Ending → World → Prop} (h : Calls P f args w R) : CallsIn (FR ro) n P f args w R :=
  (callsIn_wide (n := n)).2 h
theorem calls_of_in {ro : Option Nat} {n : Nat} {P : Program} {f : FuncId} {args : Array Value} {w : World} {R : Ending → World → Prop} (h : CallsIn (FR ro) n P f args w R) : Calls P f args w R :=
  (callsIn_wide (n := n)).1 h

/-! ### Environments -/
def VEnv.upd (ρ : VEnv) (d : Nat) (v : Value) : VEnv := fun i => cond (Nat.beq i d) v (ρ i)
def VEnv.put (ρ : VEnv) (d : Option Nat) (v : Value) : VEnv := match d with | some d => ρ.upd d v | none => ρ
theorem VEnv.upd_same (ρ : VEnv) (d : Nat) (v : Value) : ρ.upd d v d = v := by simp [VEnv.upd]
theorem VEnv.upd_ne (ρ : VEnv) {d i : Nat} (v : Value) (h : i ≠ d) : ρ.upd d v i = ρ i := by
  have : Nat.beq i d = false := by rw [← Bool.not_eq_true]; simpa using h
  simp [VEnv.upd, this]
/-- The place at which the marks of the loops over functions are kept. -/
def MK : Nat := 1000000
def evV (ρ : VEnv) : Operand → Value
  | .tmp t => ρ t
  | .const v => v
  | .global g => .pointer (some ⟨g, 0, none⟩)
  | .func f => .func (.func f) #[] #[]

def marksOf : Value → List Deferred
  | .tuple vs => vs.toList.map fun | .pointer (some a) => { target := .collected a.block, args := #[] } | _ => default
  | _ => []

structure Agree (n : Nat) (a : Act) (ρ : VEnv) : Prop where
  size : a.tmps.size = n
  tmp : ∀ i, i < n → a.tmps.getD i undef = ρ i
  defers : a.defers = marksOf (ρ MK)

/-! What is known of a value already: that it is true, false, or none of both. -/
inductive Kn where
  | unk | tt | ff | un
structure SV where
  k : Kn
  v : Value
def dy (v : Value) : SV := ⟨.unk, v⟩
def sb (b : Bool) : SV := cond b ⟨.tt, .bool true⟩ ⟨.ff, .bool false⟩
def su : SV := ⟨.un, undef⟩
def svOf (v : Value) : SV := match v with
  | .bool true => ⟨.tt, .bool true⟩
  | .bool false => ⟨.ff, .bool false⟩
  | v => dy v
def SV.Good (s : SV) : Prop := match s.k with
  | .unk => True
  | .tt => s.v = .bool true
  | .ff => s.v = .bool false
  | .un => ∀ c, s.v ≠ .bool c
theorem good_dy (v : Value) : (dy v).Good := trivial
theorem good_sb (b : Bool) : (sb b).Good := by cases b <;> rfl
theorem good_su : su.Good := by intro c; simp [su, undef]
theorem good_svOf (v : Value) : (svOf v).Good := by
  unfold svOf; split
  · rfl
  · rfl
  · trivial
theorem sb_v (b : Bool) : (sb b).v = .bool b := by cases b <;> rfl
theorem svOf_v (v : Value) : (svOf v).v = v := by unfold svOf; split <;> rfl
abbrev Env := Nat → SV
def Env.upd (ρ : Env) (d : Nat) (s : SV) : Env := fun i => cond (Nat.beq i d) s (ρ i)
def Env.put (ρ : Env) (d : Option Nat) (s : SV) : Env := match d with | some d => ρ.upd d s | none => ρ
def Env.val (ρ : Env) : VEnv := fun i => (ρ i).v
def Gd (ρ : Env) : Prop := ∀ i, (ρ i).Good
theorem Env.upd_same (ρ : Env) (d : Nat) (s : SV) : ρ.upd d s d = s := by simp [Env.upd]
theorem Env.upd_ne (ρ : Env) {d i : Nat} (s : SV) (h : i ≠ d) : ρ.upd d s i = ρ i := by
  have : Nat.beq i d = false := by rw [← Bool.not_eq_true]; simpa using h
  simp [Env.upd, this]
theorem Env.val_upd (ρ : Env) (d : Nat) (s : SV) : (ρ.upd d s).val = ρ.val.upd d s.v := by
  funext i
  by_cases e : i = d
  · subst e; simp only [Env.val, Env.upd_same, VEnv.upd_same]
  · simp only [Env.val, Env.upd_ne _ _ e, VEnv.upd_ne _ _ e]
theorem Env.val_put (ρ : Env) (d : Option Nat) (s : SV) : (ρ.put d s).val = ρ.val.put d s.v := by
  cases d with
  | none => rfl
  | some d => exact Env.val_upd ρ d s
theorem Gd.upd {ρ : Env} (h : Gd ρ) (d : Nat) {s : SV} (hs : s.Good) : Gd (ρ.upd d s) := fun i => by
  by_cases e : i = d
  · subst e; rw [Env.upd_same]; exact hs
  · rw [Env.upd_ne _ _ e]; exact h i
theorem Gd.put {ρ : Env} (h : Gd ρ) (d : Option Nat) {s : SV} (hs : s.Good) : Gd (ρ.put d s) := by
  cases d with
  | none => exact h
  | some d => exact h.upd d hs
theorem VEnv.upd_self {ρ : VEnv} {g : Nat} {v : Value} (h : ρ g = v) : ρ.upd g v = ρ := by
  funext i
  by_cases e : i = g
  · subst e; rw [VEnv.upd_same, h]
  · rw [VEnv.upd_ne _ _ e]
def evS (ρ : Env) : Operand → SV
  | .tmp t => ρ t
  | .const v => svOf v
  | .global g => dy (.pointer (some ⟨g, 0, none⟩))
  | .func f => dy (.func (.func f) #[] #[])
def ev (ρ : Env) (x : Operand) : Value := (evS ρ x).v
theorem ev_val (ρ : Env) (x : Operand) : ev ρ x = evV ρ.val x := by
  cases x with
  | const v => exact svOf_v v
  | _ => rfl
theorem good_evS {ρ : Env} (h : Gd ρ) (x : Operand) : (evS ρ x).Good := by
  cases x with
  | tmp t => exact h t
  | const v => exact good_svOf v
  | _ => trivial

/-- The places that an operation, a code writes, and reads. -/
def rdOf : Operand → List Nat
  | .tmp t => [t]
  | _ => []
def readsOf (o : Oper) : List Nat := o.op.operands.toList.flatMap rdOf
def allB {α : Type} (p : α → Bool) : List α → Bool
  | [] => true
  | x :: r => cond (p x) (allB p r) false
theorem allB_iff {α : Type} {p : α → Bool} {l : List α} : allB p l = true ↔ ∀ x ∈ l, p x = true := by
  induction l with
  | nil => simp [allB]
  | cons x r ih => cases h : p x <;> simp [allB, h, ih]
def hasN (l : List Nat) (x : Nat) : Bool := match l with
  | [] => false
  | y :: r => cond (Nat.beq x y) true (hasN r x)
theorem hasN_iff {l : List Nat} {x : Nat} : hasN l x = true ↔ x ∈ l := by
  induction l with
  | nil => simp [hasN]
  | cons y r ih =>
    simp only [hasN, List.mem_cons]
    cases h : Nat.beq x y with
    | true => simp [Nat.eq_of_beq_eq_true h]
    | false => simp [Nat.ne_of_beq_eq_false h, ih]
def tmpsOk (n : Nat) (l : List Nat) : Bool := allB (fun t => Nat.blt t n) l
def opOk (n : Nat) (o : Oper) : Bool := cond (tmpsOk n (readsOf o)) (match o.dst with | some d => Nat.blt d n | none => true) false
def codeOk (n : Nat) : Code → Bool
  | .region _ ops _ => allB (opOk n) ops.toList
  | .seq a b => cond (codeOk n a) (codeOk n b) false
  | .cond c a b => cond (tmpsOk n (rdOf c)) (cond (codeOk n a) (codeOk n b) false) false
  | .block _ c => codeOk n c
  | .loop c => codeOk n c
  | .rangeFunc f ps x y => cond (tmpsOk n (rdOf f)) (cond (tmpsOk n ps.toList) (cond (codeOk n x) (codeOk n y) false) false) false
  | .scope c => codeOk n c
  | _ => true

theorem Agree.ev_eq {n : Nat} {a : Act} {ρ : VEnv} (h : Agree n a ρ) {x : Operand} (hx : tmpsOk n (rdOf x) = true) : a.eval x = evV ρ x := by
  cases x with
  | tmp t =>
    have : t + 1 ≤ n := by simpa [tmpsOk, rdOf, allB, Nat.blt] using hx
    exact h.tmp t this
  | _ => rfl
theorem Agree.put {n : Nat} {a : Act} {ρ : VEnv} (h : Agree n a ρ) (hn : n ≤ MK) {d : Option Nat} (v : Value) (hd : (match d with | some d => Nat.blt d n | none => true) = true) : Agree n (a.put d v) (ρ.put d v) := by
  cases d with
  | none => exact h
  | some d =>
    have hd : d + 1 ≤ n := by simpa [Nat.blt] using hd
    replace hd : d < n := hd
    refine ⟨by simp [Act.put, h.size], fun i hi => ?_, ?_⟩
    · by_cases e : i = d
      · subst e
        simp only [VEnv.put, VEnv.upd_same, Act.put]
        simp [Array.getD_eq_getD_getElem?, h.size, hd]
      · rw [VEnv.put, VEnv.upd_ne _ _ e, ← h.tmp i hi]
        simp only [Act.put, Array.getD_eq_getD_getElem?]
        rw [Array.getElem?_setIfInBounds_ne (fun h => e h.symm)]
    · have : MK ≠ d := by omega
      simp only [VEnv.put, VEnv.upd_ne _ _ this]
      exact h.defers
end Go.Jac
