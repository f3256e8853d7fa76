/- Several texts of this session's own, joined: Ba, Bb, Bc, Bd, Be, Bf, Bg, Bh, Bs, Bi, Bj. -/
import Derived.RangeFuncLeaves
import Derived.RangeFuncNested
import Derived.KernelRfl
import Derived.OrdersIn
import Derived.Deep.AppendSrc
import Derived.Deep.Upon
import Derived.Great.BuildSlice
import Derived.Laws.MakeOwn
import Derived.Laws.StructEq
import Derived.Laws.Pointers
import Derived.ControlIn
import Derived.Scope
namespace Go.Jac
open Go

abbrev WP := World → Prop
abbrev VEnv := Nat → Value

/-- The fence that shuts nothing out, in a round or not. -/
def FR (ro : Option Nat) : Fence := { Fence.wide with round := ro }
theorem FR_room (ro : Option Nat) (n : Nat) : (FR ro).room n := fun _ h => by simp [FR, Fence.wide] at h
theorem FR_fn (ro : Option Nat) (f : FuncId) : (FR ro).fn f := trivial
theorem FR_depth (ro : Option Nat) (n : Nat) : (FR ro).depth.isSome = true → 1 ≤ n := fun h => by simp [FR, Fence.wide] at h
theorem FR_round (ro : Option Nat) : (FR ro).round = ro := rfl

/-- A call that returns. -/
def Cl (P : Program) (f : FuncId) (args : Array Value) (K : Value → WP) : WP := fun w =>
  Calls P f args w fun e w' => ∃ v, e = .returned v ∧ K v w'
theorem Cl.mono {P : Program} {f : FuncId} {args : Array Value} {K K' : Value → WP} {w : World} (h : Cl P f args K w) (hk : ∀ v w', K v w' → K' v w') : Cl P f args K' w :=
  Calls.mono h fun _ w' ⟨v, he, hv⟩ => ⟨v, he, hk v w' hv⟩

theorem callsIn_of {ro : Option Nat} {n : Nat} {P : Program} {f : FuncId} {args : Array Value} {w : World} {R : Ending → World → Prop} (h : Calls P f args w R) : CallsIn (FR ro) n P f args w R :=
  (callsIn_wide (n := n)).2 h
theorem calls_of_in {ro : Option Nat} {n : Nat} {P : Program} {f : FuncId} {args : Array Value} {w : World} {R : Ending → World → Prop} (h : CallsIn (FR ro) n P f args w R) : Calls P f args w R :=
  (callsIn_wide (n := n)).1 h

/-! ### Environments -/
def VEnv.upd (ρ : VEnv) (d : Nat) (v : Value) : VEnv := fun i => cond (Nat.beq i d) v (ρ i)
def VEnv.put (ρ : VEnv) (d : Option Nat) (v : Value) : VEnv := match d with | some d => ρ.upd d v | none => ρ
theorem VEnv.upd_same (ρ : VEnv) (d : Nat) (v : Value) : ρ.upd d v d = v := by simp [VEnv.upd]
theorem VEnv.upd_ne (ρ : VEnv) {d i : Nat} (v : Value) (h : i ≠ d) : ρ.upd d v i = ρ i := by
  have : Nat.beq i d = false := by rw [← Bool.not_eq_true]; simpa using h
  simp [VEnv.upd, this]
/-- The place at which the marks of the loops over functions are kept. -/
def MK : Nat := 1000000
def evV (ρ : VEnv) : Operand → Value
  | .tmp t => ρ t
  | .const v => v
  | .global g => .pointer (some ⟨g, 0, none⟩)
  | .func f => .func (.func f) #[] #[]

def marksOf : Value → List Deferred
  | .tuple vs => vs.toList.map fun | .pointer (some a) => { target := .collected a.block, args := #[] } | _ => default
  | _ => []

structure Agree (n : Nat) (a : Act) (ρ : VEnv) : Prop where
  size : a.tmps.size = n
  tmp : ∀ i, i < n → a.tmps.getD i undef = ρ i
  defers : a.defers = marksOf (ρ MK)

/-! What is known of a value already: that it is true, false, or none of both. -/
inductive Kn where
  | unk | tt | ff | un
structure SV where
  k : Kn
  v : Value
def dy (v : Value) : SV := ⟨.unk, v⟩
def sb (b : Bool) : SV := cond b ⟨.tt, .bool true⟩ ⟨.ff, .bool false⟩
def su : SV := ⟨.un, undef⟩
def svOf (v : Value) : SV := match v with
  | .bool true => ⟨.tt, .bool true⟩
  | .bool false => ⟨.ff, .bool false⟩
  | v => dy v
def SV.Good (s : SV) : Prop := match s.k with
  | .unk => True
  | .tt => s.v = .bool true
  | .ff => s.v = .bool false
  | .un => ∀ c, s.v ≠ .bool c
theorem good_dy (v : Value) : (dy v).Good := trivial
theorem good_sb (b : Bool) : (sb b).Good := by cases b <;> rfl
theorem good_su : su.Good := by intro c; simp [su, undef]
theorem good_svOf (v : Value) : (svOf v).Good := by
  unfold svOf; split
  · rfl
  · rfl
  · trivial
theorem sb_v (b : Bool) : (sb b).v = .bool b := by cases b <;> rfl
theorem svOf_v (v : Value) : (svOf v).v = v := by unfold svOf; split <;> rfl
abbrev Env := Nat → SV
def Env.upd (ρ : Env) (d : Nat) (s : SV) : Env := fun i => cond (Nat.beq i d) s (ρ i)
def Env.put (ρ : Env) (d : Option Nat) (s : SV) : Env := match d with | some d => ρ.upd d s | none => ρ
def Env.val (ρ : Env) : VEnv := fun i => (ρ i).v
def Gd (ρ : Env) : Prop := ∀ i, (ρ i).Good
theorem Env.upd_same (ρ : Env) (d : Nat) (s : SV) : ρ.upd d s d = s := by simp [Env.upd]
theorem Env.upd_ne (ρ : Env) {d i : Nat} (s : SV) (h : i ≠ d) : ρ.upd d s i = ρ i := by
  have : Nat.beq i d = false := by rw [← Bool.not_eq_true]; simpa using h
  simp [Env.upd, this]
theorem Env.val_upd (ρ : Env) (d : Nat) (s : SV) : (ρ.upd d s).val = ρ.val.upd d s.v := by
  funext i
  by_cases e : i = d
  · subst e; simp only [Env.val, Env.upd_same, VEnv.upd_same]
  · simp only [Env.val, Env.upd_ne _ _ e, VEnv.upd_ne _ _ e]
theorem Env.val_put (ρ : Env) (d : Option Nat) (s : SV) : (ρ.put d s).val = ρ.val.put d s.v := by
  cases d with
  | none => rfl
  | some d => exact Env.val_upd ρ d s
theorem Gd.upd {ρ : Env} (h : Gd ρ) (d : Nat) {s : SV} (hs : s.Good) : Gd (ρ.upd d s) := fun i => by
  by_cases e : i = d
  · subst e; rw [Env.upd_same]; exact hs
  · rw [Env.upd_ne _ _ e]; exact h i
theorem Gd.put {ρ : Env} (h : Gd ρ) (d : Option Nat) {s : SV} (hs : s.Good) : Gd (ρ.put d s) := by
  cases d with
  | none => exact h
  | some d => exact h.upd d hs
theorem VEnv.upd_self {ρ : VEnv} {g : Nat} {v : Value} (h : ρ g = v) : ρ.upd g v = ρ := by
  funext i
  by_cases e : i = g
  · subst e; rw [VEnv.upd_same, h]
  · rw [VEnv.upd_ne _ _ e]
def evS (ρ : Env) : Operand → SV
  | .tmp t => ρ t
  | .const v => svOf v
  | .global g => dy (.pointer (some ⟨g, 0, none⟩))
  | .func f => dy (.func (.func f) #[] #[])
def ev (ρ : Env) (x : Operand) : Value := (evS ρ x).v
theorem ev_val (ρ : Env) (x : Operand) : ev ρ x = evV ρ.val x := by
  cases x with
  | const v => exact svOf_v v
  | _ => rfl
theorem good_evS {ρ : Env} (h : Gd ρ) (x : Operand) : (evS ρ x).Good := by
  cases x with
  | tmp t => exact h t
  | const v => exact good_svOf v
  | _ => trivial

/-- The places that an operation, a code writes, and reads. -/
def rdOf : Operand → List Nat
  | .tmp t => [t]
  | _ => []
def readsOf (o : Oper) : List Nat := o.op.operands.toList.flatMap rdOf
def allB {α : Type} (p : α → Bool) : List α → Bool
  | [] => true
  | x :: r => cond (p x) (allB p r) false
theorem allB_iff {α : Type} {p : α → Bool} {l : List α} : allB p l = true ↔ ∀ x ∈ l, p x = true := by
  induction l with
  | nil => simp [allB]
  | cons x r ih => cases h : p x <;> simp [allB, h, ih]
def hasN (l : List Nat) (x : Nat) : Bool := match l with
  | [] => false
  | y :: r => cond (Nat.beq x y) true (hasN r x)
theorem hasN_iff {l : List Nat} {x : Nat} : hasN l x = true ↔ x ∈ l := by
  induction l with
  | nil => simp [hasN]
  | cons y r ih =>
    simp only [hasN, List.mem_cons]
    cases h : Nat.beq x y with
    | true => simp [Nat.eq_of_beq_eq_true h]
    | false => simp [Nat.ne_of_beq_eq_false h, ih]
def tmpsOk (n : Nat) (l : List Nat) : Bool := allB (fun t => Nat.blt t n) l
def opOk (n : Nat) (o : Oper) : Bool := cond (tmpsOk n (readsOf o)) (match o.dst with | some d => Nat.blt d n | none => true) false
def codeOk (n : Nat) : Code → Bool
  | .region _ ops _ => allB (opOk n) ops.toList
  | .seq a b => cond (codeOk n a) (codeOk n b) false
  | .cond c a b => cond (tmpsOk n (rdOf c)) (cond (codeOk n a) (codeOk n b) false) false
  | .block _ c => codeOk n c
  | .loop c => codeOk n c
  | .rangeFunc f ps x y => cond (tmpsOk n (rdOf f)) (cond (tmpsOk n ps.toList) (cond (codeOk n x) (codeOk n y) false) false) false
  | .scope c => codeOk n c
  | _ => true

theorem Agree.ev_eq {n : Nat} {a : Act} {ρ : VEnv} (h : Agree n a ρ) {x : Operand} (hx : tmpsOk n (rdOf x) = true) : a.eval x = evV ρ x := by
  cases x with
  | tmp t =>
    have : t + 1 ≤ n := by simpa [tmpsOk, rdOf, allB, Nat.blt] using hx
    exact h.tmp t this
  | _ => rfl
theorem Agree.put {n : Nat} {a : Act} {ρ : VEnv} (h : Agree n a ρ) (hn : n ≤ MK) {d : Option Nat} (v : Value) (hd : (match d with | some d => Nat.blt d n | none => true) = true) : Agree n (a.put d v) (ρ.put d v) := by
  cases d with
  | none => exact h
  | some d =>
    have hd : d + 1 ≤ n := by simpa [Nat.blt] using hd
    replace hd : d < n := hd
    refine ⟨by simp [Act.put, h.size], fun i hi => ?_, ?_⟩
    · by_cases e : i = d
      · subst e
        simp only [VEnv.put, VEnv.upd_same, Act.put]
        simp [Array.getD_eq_getD_getElem?, h.size, hd]
      · rw [VEnv.put, VEnv.upd_ne _ _ e, ← h.tmp i hi]
        simp only [Act.put, Array.getD_eq_getD_getElem?]
        rw [Array.getElem?_setIfInBounds_ne (fun h => e h.symm)]
    · have : MK ≠ d := by omega
      simp only [VEnv.put, VEnv.upd_ne _ _ this]
      exact h.defers
end Go.Jac

namespace Go.Jac
open Go

/-! ### What the operations come to -/
def Ex (P : Program) (s : Sem Value) (K : Value → WP) : WP := fun w => ∃ v w', s.run P w = .ok v w' ∧ K v w'
def Ld1 (a : Value) (K : Value → WP) : WP := fun w => ∃ p v, a = .pointer (some p) ∧ w.cell? p = some v ∧ K v w
def LdN (n : Nat) (a : Value) (K : Value → WP) : WP := fun w => ∃ (p : Addr) (vs : List Value), a = .pointer (some p) ∧ vs.length = n ∧ (∀ j v, vs[j]? = some v → w.cell? (p.add j) = some v) ∧ K (.agg vs.toArray) w
def stCells (p : Addr) : List Value → Nat → World → World
  | [], _, w => w
  | v :: r, i, w => stCells p r (i + 1) (w.setCell (p.add i) v)
def Storable (w : World) (p : Addr) (vs : List Value) (i : Nat) : Prop :=
  ∀ j v, vs[j]? = some v → v.oneCell' = true ∧ (∃ o, w.cell? (p.add (i + j)) = some o) ∧ w.frozen? (p.add (i + j)) = false
def St (n : Nat) (a v : Value) (K : Value → WP) : WP := fun w => ∃ p, a = .pointer (some p) ∧ v.cells.size = n ∧ Storable w p v.cells.toList 0 ∧ K undef (stCells p v.cells.toList 0 w)
def New (t : TypeId) (cells : Array Value) (K : Value → WP) : WP := fun w => K (.pointer (some ⟨w.heap.size, 0, none⟩)) { w with heap := w.heap.push (.cells cells t) }
def NilC (x : Value) (K : Value → WP) : WP := fun w => (match x with | .pointer (some _) | .func (.func _) _ _ | .func (.yield _) _ _ => K x w | _ => False)
def FA (x : Value) (off : Nat) (K : Value → WP) : WP := fun w => (match x with | .pointer (some p) => K (.pointer (some (p.add off))) w | _ => False)
def IA (es : Nat) (x i : Value) (K : Value → WP) : WP := fun w => ∃ p len cap k n, x = .slice (some p) len cap ∧ i = .int k n ∧ 0 ≤ n ∧ n < (len : Int) ∧ K (.pointer (some (p.add (n.toNat * es)))) w
def IAr (len es : Nat) (x i : Value) (K : Value → WP) : WP := fun w => ∃ p k n, x = .pointer (some p) ∧ i = .int k n ∧ 0 ≤ n ∧ n < (len : Int) ∧ K (.pointer (some (p.add (n.toNat * es)))) w
def intBin (op : BinOp) (k : IntKind) (a : Int) (k' : IntKind) (b : Int) : Option Value :=
  match op with
  | .shl => if b < 0 then none else some (.int k (k.wrap (a * 2 ^ (min b.toNat k.bits))))
  | .shr => if b < 0 then none else some (.int k (a.fdiv (2 ^ (min b.toNat k.bits))))
  | .add => if k = k' then some (.int k (k.wrap (a + b))) else none
  | .sub => if k = k' then some (.int k (k.wrap (a - b))) else none
  | .mul => if k = k' then some (.int k (k.wrap (a * b))) else none
  | .quo => if k = k' ∧ b ≠ 0 then some (.int k (k.wrap (a.tdiv b))) else none
  | .rem => if k = k' ∧ b ≠ 0 then some (.int k (a.tmod b)) else none
  | .and => if k = k' then some (.int k (k.wrap (BitVec.ofInt k.bits a &&& BitVec.ofInt k.bits b).toNat)) else none
  | .or => if k = k' then some (.int k (k.wrap (BitVec.ofInt k.bits a ||| BitVec.ofInt k.bits b).toNat)) else none
  | .xor => if k = k' then some (.int k (k.wrap (BitVec.ofInt k.bits a ^^^ BitVec.ofInt k.bits b).toNat)) else none
  | .andNot => if k = k' then some (.int k (k.wrap (BitVec.ofInt k.bits a &&& ~~~ BitVec.ofInt k.bits b).toNat)) else none
  | .eql => if k = k' then some (.bool (a == b)) else none
  | .neq => if k = k' then some (.bool (a != b)) else none
  | .lss => if k = k' then some (.bool (a < b)) else none
  | .leq => if k = k' then some (.bool (a ≤ b)) else none
  | .gtr => if k = k' then some (.bool (a > b)) else none
  | .geq => if k = k' then some (.bool (a ≥ b)) else none
def BinI (op : BinOp) (x y : Value) (K : Value → WP) : WP := fun w => ∃ k a k' b v, x = .int k a ∧ y = .int k' b ∧ intBin op k a k' b = some v ∧ K v w
def BinX (P : Program) (op : BinOp) (t : TypeId) (ox oy : Operand) (x y : Value) (K : Value → WP) : WP := Ex P (do eqGuard op t ox oy x y; binOp op t x y) K
def Un (op : UnOp) (x : Value) (K : Value → WP) : WP := fun w => ∃ v, (∀ P w', (Op.unary op x).run P w' = .ok v w') ∧ K v w
def Pick (c a b : Value) (K : Value → WP) : WP := fun w => (match c with | .bool true => K a w | .bool false => K b w | _ => False)
def Ext (t : Value) (i : Nat) (K : Value → WP) : WP := fun w => (match t with | .tuple vs => (match vs[i]? with | some v => K v w | none => False) | _ => False)
def ConvI (k : IntKind) (x : Value) (K : Value → WP) : WP := fun w => (match x with | .int _ n => K (.int k (k.wrap n)) w | _ => False)
def LenS (x : Value) (K : Value → WP) : WP := fun w => (match x with | .slice _ n _ => K (.int .i64 n) w | _ => False)

/-! ### Operations whose types are looked up already -/
def flatFs (P : Program) : List Field → Nat → Bool
  | [], _ => true
  | f :: r, k => cond (Nat.beq f.offset k) (cond (f.name != "_") (match P.underlying f.type with | some (.int _) => flatFs P r (k + 1) | _ => false) false) false
def flatS (P : Program) (t : TypeId) (fs : Array Field) : Bool := cond (flatFs P fs.toList 0) (cond (P.stoodInHeld t) false (!P.eqGuardType P.depth t)) false
def bldS (zero : Array Value) (places : List (Nat × Nat)) (parts : Array (Nat × Value)) : Sem Value :=
  match Instr.fill (fun i => places[i]?) zero parts.toList with
  | some cells => pure (.agg cells)
  | none => stuck ""
def rowZ (zero : Array Value) (n : Nat) : Array Value := (Array.range n).map (zero[· % zero.size]!)
/-- What the second argument of an append yields. -/
inductive SrcV (es : Nat) (x : Value) (n : Nat) (news : List Value) (w : World) : Prop
  | slice (a : Addr) (c : Nat) (hx : x = .slice (some a) n c) (hl : news.length = n * es) (hc : ∀ j u, news[j]? = some u → w.cell? (a.add j) = some u) (h1 : ∀ u ∈ news, u.oneCell' = true)
  | nil (c : Nat) (hx : x = .slice none 0 c) (hn : n = 0) (hl : news = [])
inductive OldV (es : Nat) (base : Option Addr) (sLen : Nat) (olds : List Value) (w : World) : Prop
  | some (a : Addr) (hb : base = .some a) (hl : olds.length = sLen * es) (hc : ∀ j u, olds[j]? = .some u → w.cell? (a.add j) = .some u)
  | none (hb : base = .none) (hl : olds = [])
def AppC (elem es bytes : Nat) (zero : Array Value) (s x : Value) (K : Value → WP) : WP := fun w =>
  ∃ base sLen sCap n news, s = .slice base sLen sCap ∧ SrcV es x n news w ∧
    ((n = 0 ∧ sLen ≤ sCap ∧ K s w) ∨
     (∃ b off, base = some ⟨b, off, none⟩ ∧ sLen + n ≤ sCap ∧ (∀ j, j < news.length → (w.cell? ⟨b, off + sLen * es + j, none⟩).isSome = true) ∧ (∀ j, j < news.length → w.frozen? ⟨b, off + sLen * es + j, none⟩ = false) ∧
        K (.slice base (sLen + n) sCap) (w.setCells b (off + sLen * es) news)) ∨
     (∃ olds, OldV es base sLen olds w ∧ sCap < sLen + n ∧ ((sLen + n : Nat) : Int) ≤ 9223372036854775807 ∧ Builtin.nextslicecap (sLen + n) sCap * bytes ≤ 281474976710656 ∧
        ∀ c, sLen + n ≤ c → K (.slice (some ⟨w.heap.size, 0, none⟩) (sLen + n) c) (w.drew.alloc (.cells ((olds ++ news).toArray ++ Builtin.zeroCells zero (c - (sLen + n))) elem))))
def BSlC (elem size : Nat) (zero : Array Value) (len : Nat) (parts : Array (Nat × Value)) (K : Value → WP) : WP := fun w =>
  len * size ≤ 2 ^ 24 ∧ ∃ cells, Instr.fill (fun i => some (i * size, size)) ((Array.range (len * size)).map (zero[· % zero.size]!)) parts.toList = some cells ∧
    K (.slice (some ⟨w.heap.size, 0, none⟩) len len) (w.alloc (.cells cells elem))
def SlC (size : Nat) (x : Value) (lo hi : Option Value) (K : Value → WP) : WP := fun w =>
  ∃ (a : Option Addr) (len cap l h : Nat), x = .slice a len cap ∧ (match hi with | none => h = len | some v => ∃ k i, v = .int k i ∧ 0 ≤ i ∧ i ≤ (cap : Int) ∧ h = i.toNat) ∧
    (match lo with | none => l = 0 | some v => ∃ k i, v = .int k i ∧ 0 ≤ i ∧ i ≤ (h : Int) ∧ l = i.toNat) ∧
    K (.slice (if cap = l then a else a.map (·.add (l * size))) (h - l) (cap - l)) w
def MkSC (elem size bytes : Nat) (zero : Array Value) (l c : Value) (K : Value → WP) : WP := fun w =>
  ∃ kl kc n m, l = .int kl n ∧ c = .int kc m ∧ 0 ≤ n ∧ n ≤ m ∧ (bytes : Int) * m ≤ 281474976710656 ∧ m ≤ 9223372036854775807 ∧
    K (.slice (some ⟨w.heap.size, 0, none⟩) n.toNat m.toNat) (w.alloc (.cells (madeCells zero (m.toNat * size)) elem))
def clrS (zero : Array Value) (x : Value) : Sem Value := match x with
  | .slice none _ _ => pure (.tuple #[])
  | .slice (some a) n _ => do
    if n = 0 then pure () else storeCells a (Builtin.zeroCells zero n).toList
    pure (.tuple #[])
  | _ => stuck ""
def ptrEq : Value → Value → Option Bool
  | .pointer none, .pointer b => some b.isNone
  | .pointer (some _), .pointer none => some false
  | .pointer (some a), .pointer (some b) => if a.block == b.block then some (a == b) else none
  | _, _ => none
/-- Values of a type whose cells are all numbers. -/
def intsEq : List Value → List Value → Option Bool
  | [], [] => some true
  | .int k a :: r, .int k' b :: r' => if k = k' then (intsEq r r').map (fun t => a == b && t) else none
  | _, _ => none
def EqB (neg : Bool) (x y : Value) (K : Value → WP) : WP := fun w => ∃ a b, x = .bool a ∧ y = .bool b ∧ K (.bool (cond neg (!(a == b)) (a == b))) w
def EqP (neg : Bool) (x y : Value) (K : Value → WP) : WP := fun w => ∃ b, ptrEq x y = some b ∧ K (.bool (cond neg (!b) b)) w
def lenV (P : Program) (ats : Array TypeId) (ty : TypeId) (args : Array Value) : List TypeId → List Value → (Value → WP) → WP
  | t :: _, x :: _, K => (match P.underlying t with
    | some (.slice _) => LenS x K
    | _ => Ex P (Builtin.len_ ats ty args) K)
  | _, _, K => Ex P (Builtin.len_ ats ty args) K
def EqS (n : Nat) (neg : Bool) (x y : Value) (K : Value → WP) : WP := fun w => ∃ (xs ys : Array Value) (b : Bool), x = .agg xs ∧ y = .agg ys ∧ xs.size = n ∧ ys.size = n ∧ intsEq xs.toList ys.toList = some b ∧ K (.bool (cond neg (!b) b)) w
/-- A call of a function value. -/
def FnV (P : Program) (f : Value) (args : Array Value) (K : Value → WP) : WP := fun w =>
  match f with
  | .func (.func k) first caps => ((∀ args w, (callFunc k args).run P w = .ok (.enter k args) w) ∧ Cl P k (first ++ args ++ caps) K w) ∨ (∃ v w', (callFunc k (first ++ args ++ caps)).run P w = .ok (.value v) w' ∧ K v w')
  | .func (.yield l) first caps => ∃ f tmps assign body, (Instr.yield l (first ++ args)).run P w = .ok (.round l f tmps assign body) w ∧ caps = caps ∧
      RoundIn (FR none) 0 P l f tmps assign body w fun e w' => ∃ v, e = .returned v ∧ K v w'
  | _ => False
/-- Tall: the kernel unfolds what is taller first, so that what a code asks is worked out ahead of the printed reading (in which a call's unfolding holds its sequel twice). -/
def Tall : Prop := ∀ (P : Program) (v : Value) (a : Array Value) (K : Value → WP) (w : World), FnV P v a K w ∧ AppC 0 0 0 a v v K w ∧ NilC v K w
def condW (b : Bool) (x y : WP) : WP := let _t := Tall; match b with | true => x | false => y
theorem condW_eq (b : Bool) (x y : WP) : condW b x y = cond b x y := by cases b <;> rfl
theorem condW_false (x y : WP) : condW false x y = y := condW_eq false x y
theorem condW_true (x y : WP) : condW true x y = x := condW_eq true x y
def Grd (x : Value) (b : Bool) (t e : WP) : WP := fun w => ∃ c, x = .bool c ∧ (c = b → t w) ∧ (c = (!b) → e w)
/-- A guard, decided at once where its value stands written out. -/
def GrdW (x : SV) (b : Bool) (t e u : WP) : WP := let _t := Tall; match x.k with
  | .tt => cond b t e
  | .ff => cond b e t
  | .un => u
  | .unk => Grd x.v b t e
def Cnd (x : Value) (t e : WP) : WP := fun w => ∃ c, x = .bool c ∧ (c = true → t w) ∧ (c = false → e w)
def CndW (x : SV) (t e : WP) : WP := let _t := Tall; match x.k with
  | .tt => t
  | .ff => e
  | _ => Cnd x.v t e
def PickW (c a b : SV) (K : SV → WP) : WP := let _t := Tall; match c.k with
  | .tt => K a
  | .ff => K b
  | _ => Pick c.v a.v b.v fun v => K (dy v)

def evs (ρ : Env) (xs : Array Operand) : Array Value := (xs.toList.map (ev ρ)).toArray
theorem evs_eq (ρ : Env) (xs : Array Operand) : evs ρ xs = xs.map (ev ρ) := by unfold evs; rw [← Array.toList_map]
def evp (ρ : Env) (xs : Array (Nat × Operand)) : Array (Nat × Value) := (xs.toList.map fun p => (p.1, ev ρ p.2)).toArray
theorem evp_eq (ρ : Env) (xs : Array (Nat × Operand)) : evp ρ xs = xs.map fun (i, x) => (i, ev ρ x) := by unfold evp; rw [← Array.toList_map]
def placesOf (P : Program) (fs : List Field) : List (Nat × Nat) := fs.map fun f => (f.offset, P.cellsOf f.type)
def knownAll (P : Program) : List Field → Bool
  | [] => true
  | f :: r => match P.info? f.type with | some _ => knownAll P r | none => false
def bldV (P : Program) (t : TypeId) (parts : Array (Nat × Value)) (K : Value → WP) : WP :=
  match P.underlying t with
  | some (.struct fs) => cond (knownAll P fs.toList) (match P.info? t with
    | some i => match i.zero with
      | some z => Ex P (bldS z.cells (placesOf P fs.toList) parts) K
      | none => fun _ => False
    | none => fun _ => False) (fun _ => False)
  | _ => Ex P (Instr.build t parts) K
def elemV (P : Program) (t : TypeId) (C : TypeId → TypeInfo → Value → WP) : WP :=
  match P.underlying t with
  | some (.slice e) => match P.info? e with
    | some i => match i.zero with
      | some z => C e i z
      | none => fun _ => False
    | none => fun _ => False
  | _ => fun _ => False
def isSl (P : Program) (t : TypeId) : Bool := match P.underlying t with | some (.slice _) => true | _ => false
def appV (P : Program) (ats : Array TypeId) (ty : TypeId) (args : Array Value) : List TypeId → List Value → (Value → WP) → WP
  | [t, t'], [s, x], K => condW (isSl P t') (elemV P t fun e i z => AppC e i.size i.bytes z.cells s x K) (Ex P (Builtin.append_ ats ty args) K)
  | _, _, K => Ex P (Builtin.append_ ats ty args) K
def slcV (P : Program) (t : TypeId) (x : Value) (lo hi mx : Option Value) (K : Value → WP) : WP :=
  match P.underlying t with
  | some (.slice e) => (match mx with | none => (match P.info? e with | some i => SlC i.size x lo hi K | none => fun _ => False) | some _ => Ex P (Instr.sliceAt t x lo hi mx) K)
  | _ => Ex P (Instr.sliceAt t x lo hi mx) K
def clrV (P : Program) (ats : Array TypeId) (ty : TypeId) (args : Array Value) : List TypeId → List Value → (Value → WP) → WP
  | [t], [x], K => (match P.underlying t with
    | some (.slice _) => elemV P t fun _ _ z => Ex P (clrS z.cells x) K
    | _ => Ex P (Builtin.clear_ ats ty args) K)
  | _, _, K => Ex P (Builtin.clear_ ats ty args) K
def eqV (P : Program) (op : BinOp) (t : TypeId) (x y : Operand) (a b : Value) (K : Value → WP) : WP :=
  match op with
  | .eql => (match P.underlying t with
    | some .bool => EqB false a b K
    | some (.pointer e) => (match P.info? e with | some i => cond (Nat.beq i.size 0) (BinX P op t x y a b K) (EqP false a b K) | none => fun _ => False)
    | some (.struct fs) => cond (flatS P t fs) (EqS fs.size false a b K) (BinX P op t x y a b K)
    | _ => BinX P op t x y a b K)
  | .neq => (match P.underlying t with
    | some .bool => EqB true a b K
    | some (.pointer e) => (match P.info? e with | some i => cond (Nat.beq i.size 0) (BinX P op t x y a b K) (EqP true a b K) | none => fun _ => False)
    | some (.struct fs) => cond (flatS P t fs) (EqS fs.size true a b K) (BinX P op t x y a b K)
    | _ => BinX P op t x y a b K)
  | op => BinX P op t x y a b K
/-- What an operation asks, over an environment; what it yields goes to K. -/
def OpV (P : Program) (o : Oper) (ρ : Env) (KS : SV → WP) : WP :=
  let K : Value → WP := fun v => KS (dy v)
  match o.op with
  | .move x => KS (evS ρ x)
  | .assign x => KS (evS ρ x)
  | .pick c a b => PickW (evS ρ c) (evS ρ a) (evS ρ b) KS
  | .alloc t => match P.info? t with
    | some i => match i.zero with
      | some z => New t z.cells K
      | none => fun _ => False
    | none => fun _ => False
  | .box t x => New t (ev ρ x).cells K
  | .build t parts => bldV P t (evp ρ parts) K
  | .buildSlice t len parts => elemV P t fun e i z => BSlC e i.size z.cells len (evp ρ parts) K
  | .load t a => match P.underlying t with
    | some (.struct _) | some (.array _ _) => (match P.info? t with | some i => LdN i.size (ev ρ a) K | none => fun _ => False)
    | some _ => Ld1 (ev ρ a) K
    | none => fun _ => False
  | .store t a x => match P.info? t with
    | some i => St i.size (ev ρ a) (ev ρ x) K
    | none => fun _ => False
  | .nilCheck x => NilC (ev ρ x) K
  | .binOp op t x y _ => match P.underlying t with
    | some (.int _) => BinI op (ev ρ x) (ev ρ y) K
    | _ => eqV P op t x y (ev ρ x) (ev ρ y) K
  | .unOp op _ x => Un op (ev ρ x) K
  | .convert src dst x => match P.underlying src, P.underlying dst with
    | some (.int _), some (.int k) => ConvI k (ev ρ x) K
    | _, _ => Ex P (convert src dst (ev ρ x)) K
  | .makeInterface t x => Ex P (Instr.makeInterface t (ev ρ x)) K
  | .makeFunc fn first captured => K (.func fn (evs ρ first) (evs ρ captured))
  | .makeMap t r => Ex P (Instr.makeMap t (r.map (ev ρ))) K
  | .makeSlice t l c => elemV P t fun e i z => MkSC e i.size i.bytes z.cells (ev ρ l) (ev ρ c) K
  | .slice t x lo hi mx => slcV P t (ev ρ x) (lo.map (ev ρ)) (hi.map (ev ρ)) (mx.map (ev ρ)) K
  | .fieldAddr s x f => match P.underlying s with
    | some (.struct fields) => (match fields[f]? with
      | some fl => (match P.info? fl.type with
        | some i => cond (Nat.beq i.size 0) (Ex P (Instr.fieldAt s (ev ρ x) f) K) (FA (ev ρ x) fl.offset K)
        | none => fun _ => False)
      | none => fun _ => False)
    | _ => fun _ => False
  | .field t x f => Ex P (Instr.field t (ev ρ x) f) K
  | .indexAddr t x ix => match P.underlying t with
    | some (.slice e) => (match P.info? e with | some i => IA i.size (ev ρ x) (ev ρ ix) K | none => fun _ => False)
    | some (.array n e) => (match P.info? e with | some i => IAr n i.size (ev ρ x) (ev ρ ix) K | none => fun _ => False)
    | _ => fun _ => False
  | .index t x ix => Ex P (Instr.index t (ev ρ x) (ev ρ ix)) K
  | .lookup t x ix ok => Ex P (Instr.lookup t (ev ρ x) (ev ρ ix) ok) K
  | .mapUpdate t m k x => Ex P (do Instr.mapUpdate t (ev ρ m) (ev ρ k) (ev ρ x); pure undef) K
  | .insert t m k x => Ex P (do Instr.mapUpdate t (ev ρ m) (ev ρ k) (ev ρ x); pure undef) K
  | .mapEntry t m k => Ex P (Instr.mapEntry t (ev ρ m) (ev ρ k)) K
  | .entryStore t m s x => Ex P (do Instr.entryStore t (ev ρ m) (ev ρ s) (ev ρ x); pure undef) K
  | .range t x => Ex P (Instr.range t (ev ρ x)) K
  | .next it isString => Ex P (Instr.next (ev ρ it) isString o.type) K
  | .entry it => Ex P (Instr.entry (ev ρ it)) K
  | .typeAssert x xType asserted ok => Ex P (Instr.typeAssert (ev ρ x) xType asserted ok) K
  | .extract t ix => Ext (ev ρ t) ix K
  | .call c => match c.callee with
    | .value f => FnV P (ev ρ f) (evs ρ c.args) K
    | .builtin .len => lenV P c.argTypes o.type (evs ρ c.args) (c.argTypes.toList) (c.args.toList.map (ev ρ)) K
    | .builtin .append => appV P c.argTypes o.type (evs ρ c.args) (c.argTypes.toList) (c.args.toList.map (ev ρ)) K
    | .builtin .cap => Ex P (Builtin.cap_ c.argTypes o.type (evs ρ c.args)) K
    | .builtin .clear => clrV P c.argTypes o.type (evs ρ c.args) (c.argTypes.toList) (c.args.toList.map (ev ρ)) K
    | .builtin .copy => Ex P (Builtin.copy_ c.argTypes o.type (evs ρ c.args)) K
    | .builtin .delete => Ex P (Builtin.delete_ c.argTypes o.type (evs ρ c.args)) K
    | .builtin .max => Ex P (Builtin.max_ c.argTypes o.type (evs ρ c.args)) K
    | .builtin .min => Ex P (Builtin.min_ c.argTypes o.type (evs ρ c.args)) K
    | _ => fun _ => False
  | _ => fun _ => False

/-! ### That suffices -/
section
variable {P : Program} {o : Oper} {ρ : Env} {K : Value → WP} {w : World} {a : Act} {next : Act → World → Prop} {Q : Exit → Act → World → Prop} {ro : Option Nat}

theorem Ex.mk {s : Sem Value} {v : Value} {w' : World} (h : s.run P w = .ok v w') (k : K v w') : Ex P s K w := ⟨v, w', h, k⟩
theorem Ex.up {s : Sem Value} (h : Ex P s K w) (hk : ∀ v w', K v w' → next (a.put o.dst v) w') :
    o.uponIn (FR ro) 0 P a next Q ((do let x ← s; pure (Next.value x) : Sem Next).run P w) := by
  obtain ⟨v, w', hr, hv⟩ := h
  rw [Sem.run_bind, hr]
  exact hk v w' hv
theorem Ex.upU {s : Sem Unit} (h : Ex P (do s; pure undef) K w) (hk : ∀ v w', K v w' → next (a.put o.dst v) w') :
    o.uponIn (FR ro) 0 P a next Q ((do s; pure Next.skip : Sem Next).run P w) := by
  obtain ⟨v, w', hr, hv⟩ := h
  rw [Sem.run_bind] at hr ⊢
  cases hs : s.run P w with
  | ok u w1 =>
    rw [hs] at hr
    simp only [Result.andThen_ok, Sem.run_pure, Result.ok.injEq] at hr
    obtain ⟨rfl, rfl⟩ := hr
    exact hk _ _ hv
  | halt h w1 => rw [hs] at hr; cases hr
theorem run_underlying {t : TypeId} {d : TypeDesc} (h : P.underlying t = some d) (w : World) : (underlying t).run P w = .ok d w := by
  simp [underlying, h]
theorem run_typeInfo {t : TypeId} {i : TypeInfo} (h : P.info? t = some i) (w : World) : (typeInfo t).run P w = .ok i w := by
  simp [typeInfo, h]
theorem run_sizeOf {t : TypeId} {i : TypeInfo} (h : P.info? t = some i) (w : World) : (sizeOf t).run P w = .ok i.size w := by
  simp [sizeOf, run_typeInfo h]
def dAgg : TypeDesc → Bool
  | .struct _ | .array _ _ => true
  | _ => false
theorem run_isAgg {t : TypeId} {d : TypeDesc} (h : P.underlying t = some d) (w : World) : (isAgg t).run P w = .ok (dAgg d) w := by
  simp only [isAgg, Sem.run_bind, run_underlying h, Result.andThen_ok]
  cases d <;> rfl
theorem run_cells {p : Addr} {vs : List Value} (h : ∀ j v, vs[j]? = some v → w.cell? (p.add j) = some v) :
    (loadCells p vs.length).run P w = .ok vs.toArray w := run_loadCells_list w p vs h
theorem run_stCells {p : Addr} : ∀ (vs : List Value) (i : Nat) (w : World), Storable w p vs i → (storeCells p vs i).run P w = .ok () (stCells p vs i w)
  | [], i, w, _ => rfl
  | v :: r, i, w, h => by
    obtain ⟨h1, ⟨u, h2⟩, h3⟩ := h 0 v rfl
    simp only [Nat.add_zero] at h2 h3
    unfold storeCells
    rw [Sem.run_bind, run_store P w _ v .plain h1]
    simp only [h2, h3, Result.andThen_ok, Bool.false_eq_true, if_false]
    refine run_stCells r (i + 1) _ fun j x hj => ?_
    obtain ⟨g1, ⟨y, g2⟩, g3⟩ := h (j + 1) x (by simpa using hj)
    rw [show i + (j + 1) = i + 1 + j from by omega] at g2 g3
    refine ⟨g1, ?_, by rw [World.frozen?_setCell]; exact g3⟩
    by_cases e : p.add i = p.add (i + 1 + j)
    · rw [← e]; exact ⟨v, World.cell?_setCell_same _ _ _ h2⟩
    · exact ⟨y, by rw [World.cell?_setCell_other _ _ _ _ e]; exact g2⟩

theorem intBin_sound {op : BinOp} {k k' : IntKind} {x y : Int} {v : Value} (h : intBin op k x k' y = some v) (t : TypeId) (w : World) : (binOp op t (.int k x) (.int k' y)).run P w = .ok v w := by
  cases op <;> simp only [intBin] at h <;> simp only [binOp] <;>
    first
    | (split at h
       · cases h
       · rename_i hb; simp only [Option.some.injEq] at h; subst h; simp [Op.shift, hb])
    | (split at h
       · rename_i hk
         simp only [Option.some.injEq] at h; subst h
         first
         | (obtain ⟨rfl, hy⟩ := hk; simp [Op.intDiv, hy])
         | (subst hk; simp [Op.intArith, Op.intBits, Op.intCmp])
       · cases h)
theorem eqGuard_int {op : BinOp} {t : TypeId} {ox oy : Operand} {k k' : IntKind} {x y : Int} (w : World) : (eqGuard op t ox oy (.int k x) (.int k' y)).run P w = .ok () w := by
  unfold eqGuard
  split <;> rfl

theorem elemV_out {t : TypeId} {C : TypeId → TypeInfo → Value → WP} (h : elemV P t C w) : ∃ e i z, P.underlying t = some (.slice e) ∧ P.info? e = some i ∧ i.zero = some z ∧ C e i z w := by
  unfold elemV at h
  cases hu : P.underlying t with
  | none => rw [hu] at h; exact h.elim
  | some d =>
    rw [hu] at h
    cases d <;> (try exact h.elim)
    rename_i e
    dsimp only at h
    cases hi : P.info? e with
    | none => rw [hi] at h; exact h.elim
    | some i =>
      rw [hi] at h
      dsimp only at h
      cases hz : i.zero with
      | none => rw [hz] at h; exact h.elim
      | some z => rw [hz] at h; exact ⟨e, i, z, rfl, hi, hz, h⟩
theorem run_zeroValue {t : TypeId} {i : TypeInfo} {z : Value} (h : P.info? t = some i) (hz : i.zero = some z) (w : World) : (zeroValue t).run P w = .ok z w := by
  simp [zeroValue, run_typeInfo h, hz]
theorem Ex.of_run {s s' : Sem Value} (h : Ex P s K w) (e : ∀ v w', s.run P w = .ok v w' → s'.run P w = .ok v w') : Ex P s' K w := by
  obtain ⟨v, w', hr, hv⟩ := h
  exact ⟨v, w', e v w' hr, hv⟩
theorem places_run : ∀ (fs : List Field) (w : World), knownAll P fs = true → (fs.mapM fun f => (do pure (f.offset, ← sizeOf f.type) : Sem (Nat × Nat))).run P w = .ok (placesOf P fs) w
  | [], w, _ => rfl
  | f :: r, w, h => by
    unfold knownAll at h
    cases hi : P.info? f.type with
    | none => rw [hi] at h; cases h
    | some i =>
      rw [hi] at h
      rw [List.mapM_cons]
      simp only [Sem.run_bind, run_sizeOf hi, Sem.run_pure, Result.andThen_ok, places_run r w h]
      simp [placesOf, Program.cellsOf, hi]
theorem bldV_ex {t : TypeId} {parts : Array (Nat × Value)} (h : bldV P t parts K w) : Ex P (Instr.build t parts) K w := by
  unfold bldV at h
  cases hu : P.underlying t with
  | none => rw [hu] at h; exact h
  | some d =>
    rw [hu] at h
    cases d <;> (try exact h)
    rename_i fs
    dsimp only at h
    cases hk : knownAll P fs.toList with
    | false => rw [hk] at h; exact h.elim
    | true =>
      rw [hk] at h
      simp only [cond_true] at h
      cases hi : P.info? t with
      | none => rw [hi] at h; exact h.elim
      | some i =>
        rw [hi] at h
        dsimp only at h
        cases hz : i.zero with
        | none => rw [hz] at h; exact h.elim
        | some z =>
          rw [hz] at h
          dsimp only at h
          refine Ex.of_run h fun v w' hr => ?_
          have hp : (fs.mapM fun f => (do pure (f.offset, ← sizeOf f.type) : Sem (Nat × Nat))).run P w = .ok (placesOf P fs.toList).toArray w := by
            rw [← Array.toArray_toList (xs := fs), List.mapM_toArray, Sem.run_map, places_run _ _ (by simpa using hk)]
            simp
          unfold bldS at hr
          simp only [Instr.build, Sem.run_bind, run_zeroValue hi hz, run_underlying hu, Result.andThen_ok, hp]
          have : (fun x : Nat => (placesOf P fs.toList).toArray[x]?) = fun i => (placesOf P fs.toList)[i]? := by funext i; simp
          rw [this]
          cases hf : Instr.fill (fun i => (placesOf P fs.toList)[i]?) z.cells parts.toList with
          | none => rw [hf] at hr; simp at hr
          | some cs => rw [hf] at hr; exact hr
theorem BSlC_ex {t e : TypeId} {i : TypeInfo} {z : Value} {len : Nat} {parts : Array (Nat × Value)} (hu : P.underlying t = some (.slice e)) (hi : P.info? e = some i) (hz : i.zero = some z)
    (h : BSlC e i.size z.cells len parts K w) : Ex P (Instr.buildSlice t len parts) K w := by
  obtain ⟨hb, cells, hf, hk⟩ := h
  by_cases h0 : len * i.size = 0
  · refine ⟨_, _, ?_, hk⟩
    rw [h0] at hf
    have hf' : Instr.fill (fun j => some (j * i.size, i.size)) (#[] : Array Value) parts.toList = some cells := by
      have e : (Array.range 0).map (fun x => z.cells[x % z.cells.size]!) = (#[] : Array Value) := by simp
      rw [← e]; exact hf
    have e0 : Array.range 0 = #[] := by simp
    simp [Instr.buildSlice, run_underlying hu, sizeOf, typeInfo, hi, h0, newRow, hf', e0]
  · exact ⟨_, _, run_buildSlice w t e len parts cells i z hu hi hz (by omega) h0 hf, hk⟩
theorem SrcV.src {es : Nat} {x : Value} {n : Nat} {news : List Value} {tx : TypeId} (h : SrcV es x n news w) (hk : ∃ e', P.underlying tx = some (.slice e')) : Src P es tx x n news w := by
  obtain ⟨e', hk⟩ := hk
  rcases h with ⟨a, c, rfl, hl, hc, h1⟩ | ⟨c, rfl, rfl, rfl⟩
  · exact Src.ofSlice w hk a n c news hl hc h1
  · exact Src.ofNil w hk c
theorem AppC_ex {t t' e e' : TypeId} {i : TypeInfo} {z s x : Value} {ty : TypeId} (hu : P.underlying t = some (.slice e)) (hi : P.info? e = some i) (hz : i.zero = some z) (hn : P.underlying t' = some (.slice e'))
    (h : AppC e i.size i.bytes z.cells s x K w) : Ex P (Builtin.append_ #[t, t'] ty #[s, x]) K w := by
  obtain ⟨base, sLen, sCap, n, news, rfl, hsrc, h⟩ := h
  have hs := hsrc.src (P := P) (tx := t') ⟨e', hn⟩
  rcases h with ⟨rfl, hle, hk⟩ | ⟨b, off, rfl, hle, hc, hf, hk⟩ | ⟨olds, ho, hg, h63, h48, hk⟩
  · have : news = [] := by
      have := hs.newsLen
      simpa using this
    subst this
    exact ⟨_, _, run_append_nothing w t t' ty e i hu hi base sLen sCap hle x hs, hk⟩
  · exact ⟨_, _, run_append_room_src w t t' ty e i hu hi b off sLen sCap x n news hs hle hc hf, hk⟩
  · refine ⟨_, _, run_append_grow_src w t t' ty e i z hu hi hz base sLen sCap olds ?_ x n news hs hg h63 h48, hk _ ?_⟩
    · rcases ho with ⟨a, rfl, hl, hc⟩ | ⟨rfl, rfl⟩
      · exact run_firstCells_some w.drew i.size sLen a sLen sCap olds hl (by simpa using hc)
      · exact run_firstCells_none w.drew i.size sLen sLen sCap
    · unfold grownCap
      simp only [Question.cut]
      omega
theorem SlC_ex {t e : TypeId} {i : TypeInfo} {x : Value} {lo hi : Option Value} (hu : P.underlying t = some (.slice e)) (hi' : P.info? e = some i) (h : SlC i.size x lo hi K w) : Ex P (Instr.sliceAt t x lo hi none) K w := by
  obtain ⟨a, len, cap, l, h, rfl, hh, hl, hk⟩ := h
  refine ⟨_, _, ?_, hk⟩
  have hb : (Instr.sliceBounds true len cap lo hi none).run P w = .ok (l, h, cap) w := by
    cases hi with
    | none =>
      subst hh
      cases lo with
      | none => subst hl; rfl
      | some v =>
        obtain ⟨k, i, rfl, h0, h1, rfl⟩ := hl
        simp [Instr.sliceBounds, Instr.sliceBound, asIntOf, h0, h1]
    | some v =>
      obtain ⟨k, i, rfl, h0, h1, rfl⟩ := hh
      cases lo with
      | none => subst hl; simp [Instr.sliceBounds, Instr.sliceBound, asIntOf, h0, h1]
      | some v =>
        obtain ⟨k, j, rfl, h0', h1', rfl⟩ := hl
        have h2' : j ≤ max i 0 := by omega
        simp [Instr.sliceBounds, Instr.sliceBound, asIntOf, h0, h1, h0', h2']
  simp only [Instr.sliceAt, Instr.slice, Sem.run_bind, run_underlying hu, Result.andThen_ok, hb, run_sizeOf hi', Sem.run_pure]
theorem MkSC_ex {t e : TypeId} {i : TypeInfo} {z l c : Value} (hu : P.underlying t = some (.slice e)) (hi : P.info? e = some i) (hz : i.zero = some z)
    (h : MkSC e i.size i.bytes z.cells l c K w) : Ex P (Instr.makeSlice t l c) K w := by
  obtain ⟨kl, kc, n, m, rfl, rfl, h0, hle, hb, h63, hk⟩ := h
  exact ⟨_, _, run_make w t e i z hu hi hz kl kc n m h0 hle hb h63, hk⟩
theorem EqB_ex {op : BinOp} {neg : Bool} {t : TypeId} {ox oy : Operand} {x y : Value} (hop : op = (if neg then .neq else .eql)) (hu : P.underlying t = some .bool) (h : EqB neg x y K w) : BinX P op t ox oy x y K w := by
  obtain ⟨a, b, rfl, rfl, hk⟩ := h
  have hg : ∀ op, (eqGuard op t ox oy (.bool a) (.bool b)).run P w = .ok () w := fun op => by unfold eqGuard; split <;> rfl
  subst hop
  cases neg
  · exact ⟨_, w, by rw [Sem.run_bind, hg]; exact run_eql_bool w t a b hu, hk⟩
  · exact ⟨_, w, by rw [Sem.run_bind, hg]; exact run_neq_bool w t a b hu, hk⟩
theorem equalIn_ptr {d : Nat} {t e : TypeId} {i : TypeInfo} {x y : Value} {b : Bool} (hu : P.underlying t = some (.pointer e)) (hi : P.info? e = some i) (hsz : i.size ≠ 0) (hb : ptrEq x y = some b) : (Op.equalIn (d + 1) t x y).run P w = .ok b w := by
  unfold ptrEq at hb
  split at hb
  · cases hb; simp [Op.equalIn, run_underlying hu]
  · cases hb; simp [Op.equalIn, run_underlying hu]
  · split at hb
    · rename_i p q hpq
      cases hb
      have hpq' : p.block = q.block := by simpa using hpq
      simp [Op.equalIn, run_underlying hu, run_sizeOf hi, hsz, sameAddr, hpq']
    · cases hb
  · cases hb
theorem EqP_ex {op : BinOp} {neg : Bool} {t e : TypeId} {i : TypeInfo} {ox oy : Operand} {x y : Value} (hop : op = (if neg then .neq else .eql)) (hu : P.underlying t = some (.pointer e)) (hi : P.info? e = some i) (hsz : i.size ≠ 0) (h : EqP neg x y K w) : BinX P op t ox oy x y K w := by
  obtain ⟨b, hb, hk⟩ := h
  have he : (Op.equal t x y).run P w = .ok b w := equalIn_ptr (d := 9999) hu hi hsz hb
  have hx : ∃ p, x = .pointer p := by
    cases x with
    | pointer p => exact ⟨p, rfl⟩
    | _ => cases hb
  have hy : ∃ q, y = .pointer q := by
    obtain ⟨p, rfl⟩ := hx
    cases y with
    | pointer q => exact ⟨q, rfl⟩
    | _ => cases p <;> cases hb
  obtain ⟨p, rfl⟩ := hx
  obtain ⟨q, rfl⟩ := hy
  have hg : ∀ op, (eqGuard op t ox oy (.pointer p) (.pointer q)).run P w = .ok () w := fun op => by unfold eqGuard; split <;> rfl
  subst hop
  cases neg
  · refine ⟨_, w, ?_, hk⟩
    rw [Sem.run_bind, hg]
    simp only [Result.andThen_ok, binOp, if_false, Bool.false_eq_true]
    rw [Sem.run_bind, he]; rfl
  · refine ⟨_, w, ?_, hk⟩
    rw [Sem.run_bind, hg]
    simp only [Result.andThen_ok, binOp, if_true]
    rw [Sem.run_bind, he]; rfl
theorem eqFields_ints {d : Nat} : ∀ (fs : List Field) (k : Nat) (xs ys : Array Value) (b : Bool), flatFs P fs k = true → (xs.toList.drop k).length = fs.length → (ys.toList.drop k).length = fs.length → intsEq (xs.toList.drop k) (ys.toList.drop k) = some b →
    (Op.eqFields (d + 1) xs ys fs).run P w = .ok b w
  | [], k, xs, ys, b, _, hx, hy, h => by
    have h1 := List.length_eq_zero_iff.1 hx
    have h2 := List.length_eq_zero_iff.1 hy
    rw [h1, h2] at h
    cases h
    rfl
  | f :: r, k, xs, ys, b, hf, hx, hy, h => by
    simp only [flatFs] at hf
    cases hc1 : Nat.beq f.offset k with
    | false => rw [hc1] at hf; cases hf
    | true =>
      rw [hc1] at hf
      simp only [cond_true] at hf
      cases hn : (f.name != "_") with
      | false => rw [hn] at hf; cases hf
      | true =>
        rw [hn] at hf
        simp only [cond_true] at hf
        have hoff := Nat.eq_of_beq_eq_true hc1
        cases hu : P.underlying f.type with
        | none => rw [hu] at hf; cases hf
        | some dd =>
          rw [hu] at hf
          cases dd <;> (try cases hf)
          rename_i kk
          dsimp only at hf
          obtain ⟨x, hx'⟩ : ∃ x, xs.toList.drop k = x :: xs.toList.drop (k + 1) := by
            have : k < xs.toList.length := by
              rw [List.length_drop, List.length_cons] at hx; omega
            exact ⟨_, List.drop_eq_getElem_cons this⟩
          obtain ⟨y, hy'⟩ : ∃ y, ys.toList.drop k = y :: ys.toList.drop (k + 1) := by
            have : k < ys.toList.length := by
              rw [List.length_drop, List.length_cons] at hy; omega
            exact ⟨_, List.drop_eq_getElem_cons this⟩
          rw [hx', hy'] at h
          rw [hx', List.length_cons, List.length_cons] at hx
          rw [hy', List.length_cons, List.length_cons] at hy
          have gx : xs[k]? = some x := by
            have := congrArg (fun l => l[0]?) hx'
            simpa [List.getElem?_drop] using this
          have gy : ys[k]? = some y := by
            have := congrArg (fun l => l[0]?) hy'
            simpa [List.getElem?_drop] using this
          cases x <;> (try (simp [intsEq] at h; done))
          cases y <;> (try (simp [intsEq] at h; done))
          rename_i ka a kb b'
          simp only [intsEq] at h
          by_cases hk : ka = kb
          · subst hk
            rw [if_pos rfl] at h
            cases hr : intsEq (xs.toList.drop (k + 1)) (ys.toList.drop (k + 1)) with
            | none => rw [hr] at h; cases h
            | some t =>
              rw [hr] at h
              simp only [Option.map_some, Option.some.injEq] at h
              have ih := eqFields_ints (d := d) r (k + 1) xs ys t hf (by omega) (by omega) hr
              have hp : ∀ (zs : Array Value) (z : Value), zs[k]? = some z → (part f.type zs f.offset).run P w = .ok z w := by
                intro zs z hz
                unfold part
                rw [Sem.run_bind, run_isAgg hu, hoff]
                simp [dAgg, hz]
              have hne : f.name ≠ "_" := by simpa using hn
              simp only [Op.eqFields, hne, ne_eq, not_false_eq_true, if_true, Sem.run_bind, hp xs _ gx, hp ys _ gy, Result.andThen_ok, run_equalIn_int w d f.type ka _ a b' hu]
              cases hab : (a == b') with
              | false => rw [hab] at h; simp at h; subst h; rfl
              | true => rw [hab] at h; simp at h; subst h; simpa using ih
          · rw [if_neg hk] at h; cases h
theorem EqS_ex {op : BinOp} {neg : Bool} {t : TypeId} {fs : Array Field} {ox oy : Operand} {x y : Value} (hop : op = (if neg then .neq else .eql)) (hu : P.underlying t = some (.struct fs)) (hok : flatS P t fs = true) (h : EqS fs.size neg x y K w) : BinX P op t ox oy x y K w := by
  obtain ⟨xs, ys, b, rfl, rfl, hlx, hly, hb, hk⟩ := h
  unfold flatS at hok
  cases h1 : flatFs P fs.toList 0 with
  | false => rw [h1] at hok; cases hok
  | true =>
    rw [h1] at hok
    simp only [cond_true] at hok
    cases h2 : P.stoodInHeld t with
    | true => rw [h2] at hok; cases hok
    | false =>
      rw [h2] at hok
      simp only [cond_false] at hok
      have h3 : P.eqGuardType P.depth t = false := by simpa using hok
      have hfo : P.fieldsOf t = fs := by simp [Program.fieldsOf, hu]
      have he : (Op.equalIn 10000 t (.agg xs) (.agg ys)).run P w = .ok b w := by
        rw [show (10000 : Nat) = 9999 + 1 from rfl, run_equalIn_struct w 9999 t xs ys (by rw [hfo]; exact hu) h2, hfo]
        exact eqFields_ints (d := 9998) fs.toList 0 xs ys b h1 (by simpa using hlx) (by simpa using hly) (by simpa using hb)
      subst hop
      cases neg
      · refine ⟨_, w, ?_, hk⟩
        rw [Sem.run_bind, run_eqGuard_agg w _ t _ _ _ _ h3]
        simp only [Result.andThen_ok, if_false, Bool.false_eq_true]
        rw [run_eql_struct, he]; rfl
      · refine ⟨_, w, ?_, hk⟩
        rw [Sem.run_bind, run_eqGuard_agg w _ t _ _ _ _ h3]
        simp only [Result.andThen_ok, if_true]
        rw [run_neq_struct, he]; rfl
theorem eqV_ex {op : BinOp} {t : TypeId} {ox oy : Operand} {x y : Value} (h : eqV P op t ox oy x y K w) : BinX P op t ox oy x y K w := by
  have key : ∀ (neg : Bool), op = (if neg then .neq else .eql) → (match P.underlying t with
    | some .bool => EqB neg x y K
    | some (.pointer e) => (match P.info? e with | some i => cond (Nat.beq i.size 0) (BinX P op t ox oy x y K) (EqP neg x y K) | none => fun _ => False)
    | some (.struct fs) => cond (flatS P t fs) (EqS fs.size neg x y K) (BinX P op t ox oy x y K)
    | _ => BinX P op t ox oy x y K) w → BinX P op t ox oy x y K w := by
    intro neg hop h
    cases hu : P.underlying t with
    | none => rw [hu] at h; exact h
    | some d =>
      rw [hu] at h
      cases d <;> (try exact h)
      case bool => exact EqB_ex hop hu h
      case pointer e =>
        dsimp only at h
        cases hi : P.info? e with
        | none => rw [hi] at h; exact h.elim
        | some i =>
          rw [hi] at h
          dsimp only at h
          cases hz : Nat.beq i.size 0 with
          | true => rw [hz] at h; exact h
          | false => rw [hz] at h; exact EqP_ex hop hu hi (Nat.ne_of_beq_eq_false hz) h
      case struct fs =>
        dsimp only at h
        cases hf : flatS P t fs with
        | false => rw [hf] at h; exact h
        | true => rw [hf] at h; exact EqS_ex hop hu hf h
  cases op <;> (try exact h)
  · exact key false rfl h
  · exact key true rfl h
theorem clrS_ex {t e : TypeId} {i : TypeInfo} {z x : Value} {ty : TypeId} (hu : P.underlying t = some (.slice e)) (hi : P.info? e = some i) (hz : i.zero = some z) (h : Ex P (clrS z.cells x) K w) : Ex P (Builtin.clear_ #[t] ty #[x]) K w := by
  refine Ex.of_run h fun v w' hr => ?_
  unfold clrS at hr
  cases x <;> (try (simp at hr; done))
  rename_i p n c
  cases p with
  | none => simpa [Builtin.clear_, run_underlying hu] using hr
  | some a =>
    cases n with
    | zero => simpa [Builtin.clear_, run_underlying hu] using hr
    | succ n => simpa [Builtin.clear_, run_underlying hu, run_zeroValue hi hz] using hr
theorem opOk_reads {n : Nat} {o : Oper} (h : opOk n o = true) : ∀ x ∈ o.op.operands, tmpsOk n (rdOf x) = true := by
  intro x hx
  have h1 : tmpsOk n (readsOf o) = true := by
    unfold opOk at h
    cases hh : tmpsOk n (readsOf o) <;> simp [hh] at h ⊢
  refine allB_iff.2 fun t ht => allB_iff.1 h1 t ?_
  exact List.mem_flatMap.2 ⟨x, by simpa using hx, ht⟩
theorem opOk_dst {n : Nat} {o : Oper} (h : opOk n o = true) : (match o.dst with | some d => Nat.blt d n | none => true) = true := by
  unfold opOk at h
  cases hh : tmpsOk n (readsOf o)
  · simp [hh] at h
  · rw [hh] at h; exact h

theorem opV_sound {KS : SV → WP} (hg : Gd ρ) (hok : ∀ x ∈ o.op.operands, a.eval x = ev ρ x) (hkS : ∀ s w', s.Good → KS s w' → next (a.put o.dst s.v) w') (h : OpV P o ρ KS w) :
    o.wpIn (FR ro) 0 P a w next Q := by
  have hk : ∀ v w', (fun v => KS (dy v)) v w' → next (a.put o.dst v) w' := fun v w' h => hkS (dy v) w' trivial h
  revert hk
  generalize hK : (fun v => KS (dy v)) = K
  intro hk
  refine ⟨fun f _ => FR_fn ro f, ?_⟩
  obtain ⟨dst, op, ty, pos, after, guard⟩ := o
  have hd : ∀ c, op ≠ .defer c := by rintro c rfl; exact h.elim
  have hs : ∀ cs b, op ≠ .select cs b := by rintro cs b rfl; exact h.elim
  rw [Oper.semAt_eq _ _ _ hd, execOp_congr (ρ' := ev ρ) _ hs hok]
  cases op <;> (try exact h.elim) <;> simp only [OpV, hK] at h <;> simp only [execOp]
  case move x => exact hkS _ _ (good_evS hg x) h
  case assign x => exact hkS _ _ (good_evS hg x) h
  case box t x => exact hk _ _ h
  case build t ps => rw [evp_eq] at h; exact Ex.up (bldV_ex h) hk
  case buildSlice t l ps =>
    rw [evp_eq] at h
    obtain ⟨e, i, z, hu, hi, hz, h⟩ := elemV_out h
    exact Ex.up (BSlC_ex hu hi hz h) hk
  case pick c x y =>
    have : ∃ b s, ev ρ c = .bool b ∧ s.Good ∧ s.v = (if b then ev ρ x else ev ρ y) ∧ KS s w := by
      have hc := good_evS hg c
      unfold PickW at h
      unfold ev
      revert h hc
      generalize evS ρ c = cv
      intro h hc
      obtain ⟨k, v⟩ := cv
      cases k with
      | tt => exact ⟨true, _, hc, good_evS hg x, rfl, h⟩
      | ff => exact ⟨false, _, hc, good_evS hg y, rfl, h⟩
      | unk =>
        cases v with
        | bool b => cases b <;> exact ⟨_, _, rfl, good_dy _, rfl, h⟩
        | _ => exact h.elim
      | un =>
        cases v with
        | bool b => cases b <;> exact ⟨_, _, rfl, good_dy _, rfl, h⟩
        | _ => exact h.elim
    obtain ⟨b, s, hb, hgs, hsv, hh⟩ := this
    simp only [hb, asBool, Sem.run_bind, Sem.run_pure, Result.andThen_ok]
    have := hkS s w hgs hh
    rw [hsv] at this
    cases b <;> exact this
  case alloc t =>
    cases hi : P.info? t with
    | none => rw [hi] at h; exact h.elim
    | some i =>
      rw [hi] at h
      dsimp only at h
      cases hz : i.zero with
      | none => rw [hz] at h; exact h.elim
      | some z =>
        rw [hz] at h
        simp only [Instr.alloc, zeroValue, Sem.run_bind, run_typeInfo hi, Result.andThen_ok, hz, Sem.run_pure, newVar, newRow, run_newObj]
        exact hk _ _ h
  case load t x =>
    have agg : ∀ d, P.underlying t = some d → dAgg d = true → ∀ i, P.info? t = some i → LdN i.size (ev ρ x) K w →
        ({ dst := dst, op := Op.load t x, type := ty, pos := pos, after := after, guard := guard } : Oper).uponIn (FR ro) 0 P a next Q ((do let x ← Instr.loadAt t (ev ρ x); pure (Next.value x) : Sem Next).run P w) := by
      intro d hd hag i hi h
      obtain ⟨p, vs, hp, hl, hc, hv⟩ := h
      simp only [hp, Instr.loadAt, Instr.sureAddr, loadVar, Sem.run_bind, Sem.run_pure, Result.andThen_ok, run_isAgg hd, hag, if_true, run_sizeOf hi, ← hl, run_cells hc]
      exact hk _ _ hv
    cases hd : P.underlying t with
    | none => rw [hd] at h; exact h.elim
    | some d =>
      rw [hd] at h
      have one : dAgg d = false → Ld1 (ev ρ x) K w →
          ({ dst := dst, op := Op.load t x, type := ty, pos := pos, after := after, guard := guard } : Oper).uponIn (FR ro) 0 P a next Q ((do let x ← Instr.loadAt t (ev ρ x); pure (Next.value x) : Sem Next).run P w) := by
        intro this h
        obtain ⟨p, v, hp, hc, hv⟩ := h
        simp only [hp, Instr.loadAt, Instr.sureAddr, loadVar, Sem.run_bind, Sem.run_pure, Result.andThen_ok, run_isAgg hd, this, Bool.false_eq_true, if_false, run_load, hc]
        exact hk _ _ hv
      cases d with
      | struct fs =>
        cases hi : P.info? t with
        | none => simp only [hi] at h
        | some i => simp only [hi] at h; exact agg _ hd rfl i hi h
      | array n e =>
        cases hi : P.info? t with
        | none => simp only [hi] at h
        | some i => simp only [hi] at h; exact agg _ hd rfl i hi h
      | _ => exact one rfl h
  case store t x y =>
    cases hi : P.info? t with
    | none => rw [hi] at h; exact h.elim
    | some i =>
      rw [hi] at h
      obtain ⟨p, hp, hs', hst, hv⟩ := h
      simp only [hp, Instr.storeAt, Instr.sureAddr, storeVar, Sem.run_bind, Sem.run_pure, Result.andThen_ok, run_sizeOf hi, hs', ne_eq, not_true_eq_false, if_false, run_stCells _ _ _ hst]
      exact hk _ _ hv
  case nilCheck x =>
    revert h; generalize ev ρ x = xv
    intro h
    cases xv with
    | pointer p => cases p with
      | none => exact h.elim
      | some p => exact hk _ _ h
    | func f first caps => cases f <;> first | exact h.elim | exact hk _ _ h
    | _ => exact h.elim
  case binOp op t x y yt =>
    have it : BinI op (ev ρ x) (ev ρ y) K w → ({ dst := dst, op := Op.binOp op t x y yt, type := ty, pos := pos, after := after, guard := guard } : Oper).uponIn (FR ro) 0 P a next Q
        ((do let x ← (do eqGuard op t x y (ev ρ x) (ev ρ y); binOp op t (ev ρ x) (ev ρ y)); pure (Next.value x) : Sem Next).run P w) := by
      intro h
      obtain ⟨k, m, k', b, v, hx, hy, hv, hw⟩ := h
      simp only [hx, hy, Sem.run_bind, eqGuard_int, Result.andThen_ok, intBin_sound hv, Sem.run_pure]
      exact hk _ _ hw
    cases hd : P.underlying t with
    | none => rw [hd] at h; exact Ex.up (eqV_ex h) hk
    | some d =>
      rw [hd] at h
      cases d <;> first | exact it h | exact Ex.up (eqV_ex h) hk
  case unOp op t x =>
    obtain ⟨v, hv, hw⟩ := h
    simp only [Sem.run_bind, hv, Result.andThen_ok, Sem.run_pure]
    exact hk _ _ hw
  case convert src dst' x =>
    have it : ∀ k1 k2, P.underlying src = some (.int k1) → P.underlying dst' = some (.int k2) → ConvI k2 (ev ρ x) K w → ({ dst := dst, op := Op.convert src dst' x, type := ty, pos := pos, after := after, guard := guard } : Oper).uponIn (FR ro) 0 P a next Q
        ((do let x ← convert src dst' (ev ρ x); pure (Next.value x) : Sem Next).run P w) := by
      intro k1 k2 h1 h2 h
      have : ∃ k n, ev ρ x = .int k n ∧ K (.int k2 (k2.wrap n)) w := by
        revert h; generalize ev ρ x = xv
        intro h
        cases xv with
        | int k n => exact ⟨k, n, rfl, h⟩
        | _ => exact h.elim
      obtain ⟨k, n, hx, hw⟩ := this
      simp only [hx, convert, Sem.run_bind, run_underlying h1, run_underlying h2, Result.andThen_ok, Conv.intToInt, Sem.run_pure]
      exact hk _ _ hw
    cases h1 : P.underlying src with
    | none => rw [h1] at h; exact Ex.up h hk
    | some d1 =>
      rw [h1] at h
      cases h2 : P.underlying dst' with
      | none => rw [h2] at h; cases d1 <;> exact Ex.up h hk
      | some d2 =>
        rw [h2] at h
        cases d1 <;> cases d2 <;> first | exact it _ _ h1 h2 h | exact Ex.up h hk
  case makeInterface t x => exact Ex.up h hk
  case makeFunc fn first caps => rw [evs_eq, evs_eq] at h; exact hkS (dy _) _ trivial h
  case makeMap t r => exact Ex.up h hk
  case makeSlice t l c =>
    obtain ⟨e, i, z, hu, hi, hz, h⟩ := elemV_out h
    exact Ex.up (MkSC_ex hu hi hz h) hk
  case slice t x lo hi mx =>
    unfold slcV at h
    cases hu : P.underlying t with
    | none => rw [hu] at h; exact Ex.up h hk
    | some d =>
      rw [hu] at h
      cases d <;> (try exact Ex.up h hk)
      rename_i e
      dsimp only at h
      cases hm : mx.map (ev ρ) with
      | some _ => rw [hm] at h; exact Ex.up h hk
      | none =>
        rw [hm] at h
        dsimp only at h
        cases hi' : P.info? e with
        | none => rw [hi'] at h; exact h.elim
        | some i => rw [hi'] at h; exact Ex.up (SlC_ex hu hi' h) hk
  case fieldAddr s x f =>
    cases hs' : P.underlying s with
    | none => rw [hs'] at h; exact h.elim
    | some d =>
      rw [hs'] at h
      cases d <;> (try exact h.elim)
      rename_i fs
      dsimp only at h
      cases hf : fs[f]? with
      | none => rw [hf] at h; exact h.elim
      | some fl =>
        rw [hf] at h
        dsimp only at h
        cases hi : P.info? fl.type with
        | none => rw [hi] at h; exact h.elim
        | some i =>
          rw [hi] at h
          dsimp only at h
          cases hz : Nat.beq i.size 0 with
          | true => rw [hz] at h; exact Ex.up h hk
          | false =>
            rw [hz] at h
            have hz' : i.size ≠ 0 := Nat.ne_of_beq_eq_false hz
            have : ∃ p, ev ρ x = .pointer (some p) ∧ K (.pointer (some (p.add fl.offset))) w := by
              revert h; generalize ev ρ x = xv
              intro h
              cases xv with
              | pointer p => cases p with
                | none => exact h.elim
                | some p => exact ⟨p, rfl, h⟩
              | _ => exact h.elim
            obtain ⟨p, hp, hw⟩ := this
            simp only [hp, Instr.fieldAt, Sem.run_bind, run_underlying hs', Result.andThen_ok, hf, Instr.sureAddr, Sem.run_pure, fieldPlace, run_sizeOf hi, hz', if_false]
            exact hk _ _ hw
  case field t x f => exact Ex.up h hk
  case indexAddr t x ix =>
    cases he : P.underlying t with
    | none => rw [he] at h; exact h.elim
    | some d =>
      rw [he] at h
      cases d <;> (try exact h.elim)
      case slice e =>
        dsimp only at h
        cases hi : P.info? e with
        | none => rw [hi] at h; exact h.elim
        | some i =>
          rw [hi] at h
          obtain ⟨p, len, cap, k, n, hx, hix, h0, hn, hw⟩ := h
          simp only [hx, hix, Instr.indexAt, asIntOf, Sem.run_bind, Sem.run_pure, Result.andThen_ok, run_underlying he, h0, hn, and_self, if_true, run_sizeOf hi]
          exact hk _ _ hw
      case array m e =>
        dsimp only at h
        cases hi : P.info? e with
        | none => rw [hi] at h; exact h.elim
        | some i =>
          rw [hi] at h
          obtain ⟨p, k, n, hx, hix, h0, hn, hw⟩ := h
          simp only [hx, hix, Instr.indexAt, asIntOf, Sem.run_bind, Sem.run_pure, Result.andThen_ok, run_underlying he, h0, hn, and_self, if_true, run_sizeOf hi, Instr.sureAddr]
          exact hk _ _ hw
  case index t x ix => exact Ex.up h hk
  case lookup t x ix ok => exact Ex.up h hk
  case mapUpdate t m k x => exact Ex.upU h hk
  case insert t m k x => exact Ex.upU h hk
  case mapEntry t m k => exact Ex.up h hk
  case entryStore t m s x => exact Ex.upU h hk
  case range t x => exact Ex.up h hk
  case next it s => exact Ex.up h hk
  case entry it => exact Ex.up h hk
  case typeAssert x xt as' ok => exact Ex.up h hk
  case extract t ix =>
    have : ∃ vs v, ev ρ t = .tuple vs ∧ vs[ix]? = some v ∧ K v w := by
      revert h; generalize ev ρ t = tv
      intro h
      cases tv with
      | tuple vs =>
        simp only [Ext] at h
        split at h
        · rename_i v hv; exact ⟨vs, v, rfl, hv, h⟩
        · exact h.elim
      | _ => exact h.elim
    obtain ⟨vs, v, ht, hv, hw⟩ := this
    simp only [ht, Instr.extract, hv, Sem.run_bind, Sem.run_pure, Result.andThen_ok]
    exact hk _ _ hw
  case call c =>
    obtain ⟨callee, args, ats⟩ := c
    cases callee with
    | value f =>
      dsimp only at h
      rw [evs_eq] at h
      revert h
      simp only [resolve, Sem.run_bind]
      generalize ev ρ f = fv
      intro h
      cases fv with
      | func fn first caps =>
        cases fn with
        | func k =>
          rcases h with ⟨he, hc⟩ | ⟨v, w', he, hv⟩
          · simp only [Deferred.ofValue, Sem.run_pure, Result.andThen_ok, invoke, he]
            refine ⟨FR_depth ro 0, (callsIn_of hc).mono ?_⟩
            rintro e w' ⟨v, rfl, hv⟩
            exact hk _ _ hv
          · simp only [Deferred.ofValue, Sem.run_pure, Result.andThen_ok, invoke, he]
            exact hk _ _ hv
        | yield l =>
          obtain ⟨f', tmps, assign, body, hy, _, hr⟩ := h
          simp only [Deferred.ofValue, Sem.run_pure, Result.andThen_ok, invoke, hy]
          refine ⟨FR_depth ro 0, hr.1, fun c cs hroom => ?_⟩
          obtain ⟨e, w', ⟨v, rfl, hv⟩, hs⟩ := hr.2 c cs hroom
          exact ⟨.returned v, w', hk _ _ hv, hs⟩
        | _ => exact h.elim
      | _ => exact h.elim
    | invoke r m => exact h.elim
    | builtin b =>
      have : ∀ b', resolve (ev ρ) { callee := .builtin b', args := args, argTypes := ats } ty = pure { target := .builtin b' ats ty (args.map fun | .const _ => true | _ => false), args := args.map (ev ρ) } := fun _ => rfl
      dsimp only at h
      simp only [this, Sem.run_bind, Sem.run_pure, Result.andThen_ok, invoke]
      cases b <;> (try exact h.elim) <;> dsimp only at h <;> (try simp only [evs_eq] at h) <;> simp only [builtin]
      case len =>
        have ex : Ex P (Builtin.len_ ats ty (args.map (ev ρ))) K w → ({ dst := dst, op := Op.call { callee := .builtin .len, args := args, argTypes := ats }, type := ty, pos := pos, after := after, guard := guard } : Oper).uponIn (FR ro) 0 P a next Q
            ((do let x ← Builtin.len_ ats ty (args.map (ev ρ)); pure (Next.value x) : Sem Next).run P w) := fun h => Ex.up h hk
        obtain ⟨ats⟩ := ats
        obtain ⟨args⟩ := args
        cases ats with
        | nil => exact ex h
        | cons t ts =>
          cases args with
          | nil => exact ex h
          | cons x xs =>
            simp only [lenV, List.map_cons] at h
            cases hu : P.underlying t with
            | none => rw [hu] at h; exact ex h
            | some d =>
              rw [hu] at h
              cases d with
              | slice e =>
                have : ∃ p n c, ev ρ x = .slice p n c ∧ K (.int .i64 n) w := by
                  revert h; generalize ev ρ x = xv
                  intro h
                  cases xv with
                  | slice p n c => exact ⟨p, n, c, rfl, h⟩
                  | _ => exact h.elim
                obtain ⟨p, n, c, hx, hw⟩ := this
                have e : (Builtin.len_ (⟨t :: ts⟩ : Array TypeId) ty ((⟨x :: xs⟩ : Array Operand).map (ev ρ))).run P w = .ok (.int .i64 n) w := by
                  simp [Builtin.len_, hx, run_underlying hu, goInt]
                rw [Sem.run_bind, e]
                exact hk _ _ hw
              | _ => exact ex h
      case append =>
        obtain ⟨ats⟩ := ats
        obtain ⟨args⟩ := args
        have fall : Ex P (Builtin.append_ (⟨ats⟩ : Array TypeId) ty ((⟨args⟩ : Array Operand).map (ev ρ))) K w ∨ ∃ t t' s x e', ats = [t, t'] ∧ args.map (ev ρ) = [s, x] ∧ P.underlying t' = some (.slice e') ∧ (elemV P t fun e i z => AppC e i.size i.bytes z.cells s x K) w := by
          simp only at h
          unfold appV at h
          revert h
          generalize hl : List.map (ev ρ) args = l
          intro h
          match ats, l, hl, h with
          | [t, t'], [s, x], hl, h =>
            dsimp only at h
            cases hsl : isSl P t' with
            | false => rw [hsl] at h; exact .inl h
            | true =>
              rw [hsl] at h
              obtain ⟨e', he'⟩ : ∃ e', P.underlying t' = some (.slice e') := by
                unfold isSl at hsl
                cases hq : P.underlying t' with
                | none => rw [hq] at hsl; cases hsl
                | some d => rw [hq] at hsl; cases d <;> (try cases hsl); exact ⟨_, rfl⟩
              exact .inr ⟨t, t', s, x, e', rfl, rfl, he', h⟩
          | [], _, _, h => exact .inl h
          | [_], _, _, h => exact .inl h
          | _ :: _ :: _ :: _, _, _, h => exact .inl h
          | [_, _], [], _, h => exact .inl h
          | [_, _], [_], _, h => exact .inl h
          | [_, _], _ :: _ :: _ :: _, _, h => exact .inl h
        rcases fall with h | ⟨t, t', s, x, e', h1, h2, he', hx⟩
        · exact Ex.up h hk
        · subst h1
          obtain ⟨e, i, z, hu, hi, hz, hx⟩ := elemV_out hx
          have ha : (⟨args⟩ : Array Operand).map (ev ρ) = #[s, x] := by
            rw [← Array.toArray_toList (xs := (⟨args⟩ : Array Operand).map (ev ρ)), Array.toList_map, h2]
          rw [ha]
          exact Ex.up (AppC_ex hu hi hz he' hx) hk
      case cap => exact Ex.up h hk
      case clear =>
        obtain ⟨ats⟩ := ats
        obtain ⟨args⟩ := args
        have fall : Ex P (Builtin.clear_ (⟨ats⟩ : Array TypeId) ty ((⟨args⟩ : Array Operand).map (ev ρ))) K w ∨ ∃ t x e, ats = [t] ∧ args.map (ev ρ) = [x] ∧ P.underlying t = some (.slice e) ∧ (elemV P t fun _ _ z => Ex P (clrS z.cells x) K) w := by
          simp only at h
          unfold clrV at h
          revert h
          generalize hl : List.map (ev ρ) args = l
          intro h
          match ats, l, hl, h with
          | [t], [x], hl, h =>
            dsimp only at h
            cases hu : P.underlying t with
            | none => rw [hu] at h; exact .inl h
            | some d =>
              rw [hu] at h
              cases d <;> (try exact .inl h)
              exact .inr ⟨t, x, _, rfl, rfl, hu, h⟩
          | [], _, _, h => exact .inl h
          | _ :: _ :: _, _, _, h => exact .inl h
          | [_], [], _, h => exact .inl h
          | [_], _ :: _ :: _, _, h => exact .inl h
        rcases fall with h | ⟨t, x, e, h1, h2, hu, hx⟩
        · exact Ex.up h hk
        · subst h1
          have ha : (⟨args⟩ : Array Operand).map (ev ρ) = #[x] := by
            rw [← Array.toArray_toList (xs := (⟨args⟩ : Array Operand).map (ev ρ)), Array.toList_map, h2]
          rw [ha]
          obtain ⟨e, i, z, hu', hi, hz, hx⟩ := elemV_out hx
          exact Ex.up (clrS_ex hu' hi hz hx) hk
      case copy => exact Ex.up h hk
      case delete => exact Ex.up h hk
      case max => exact Ex.up h hk
      case min => exact Ex.up h hk
end
end Go.Jac

namespace Go.Jac
open Go

def dstAt (all : List Oper) (j : Nat) : Option Nat := (all[j]?).bind (·.dst)
/-- Operations in a row. -/
def WOps (P : Program) (all : List Oper) : List Oper → Env → (Env → WP) → WP
  | [], ρ, K => K ρ
  | o :: r, ρ, K => match o.guard with
    | none => OpV P o ρ fun v => WOps P all r (ρ.put o.dst v) K
    | some (j, b) => match dstAt all j with
      | some g => GrdW (ρ g) b (OpV P o (ρ.upd g (sb b)) fun v => WOps P all r ((ρ.upd g (sb b)).put o.dst v) K) (WOps P all r ((ρ.upd g (sb (!b))).put o.dst su) K) (WOps P all r (ρ.put o.dst su) K)
      | none => fun _ => False

theorem GrdW_cases {x : SV} (hg : x.Good) {b : Bool} {t e u : WP} {w : World} (h : GrdW x b t e u w) : (x.v = .bool b ∧ t w) ∨ (x.v = .bool (!b) ∧ e w) ∨ ((∀ c, x.v ≠ .bool c) ∧ u w) := by
  obtain ⟨k, v⟩ := x
  cases k with
  | tt =>
    have hv : v = .bool true := hg
    subst hv
    cases b
    · exact .inr (.inl ⟨rfl, h⟩)
    · exact .inl ⟨rfl, h⟩
  | ff =>
    have hv : v = .bool false := hg
    subst hv
    cases b
    · exact .inl ⟨rfl, h⟩
    · exact .inr (.inl ⟨rfl, h⟩)
  | un => exact .inr (.inr ⟨hg, h⟩)
  | unk =>
    obtain ⟨c, hc, h1, h2⟩ := h
    simp only at hc
    subst hc
    by_cases e : c = b
    · subst e; exact .inl ⟨rfl, h1 rfl⟩
    · have : c = !b := by cases c <;> cases b <;> simp_all
      exact .inr (.inl ⟨by rw [this], h2 this⟩)

def dsts (l : List Oper) : List Nat := l.flatMap fun o => o.dst.toList
theorem VEnv.put_keep {ρ : VEnv} {d : Option Nat} {v : Value} {i : Nat} (h : ∀ x, d = some x → i ≠ x) : ρ.put d v i = ρ i := by
  cases d with
  | none => rfl
  | some x => exact VEnv.upd_ne _ _ (h x rfl)
theorem Env.val_know {ρ : Env} {g : Nat} {s : SV} (h : (ρ g).v = s.v) : (ρ.upd g s).val = ρ.val := by
  rw [Env.val_upd]; exact VEnv.upd_self h

section
variable {P : Program} {n : Nat} {ro : Option Nat} {ops : Array Oper} {Q : Exit → Act → World → Prop}

theorem yielded_eq {a : Act} {ρ : VEnv} (hA : Agree n a ρ) (hok : allB (opOk n) ops.toList = true) {j g : Nat} (hg : dstAt ops.toList j = some g) :
    yielded ops a.tmps j = match ρ g with | .bool b => some b | _ => none := by
  have hg' : (ops[j]?).bind (·.dst) = some g := by simpa [dstAt] using hg
  have hlt : g < n := by
    cases ho : ops[j]? with
    | none => rw [ho] at hg'; cases hg'
    | some o =>
      rw [ho] at hg'
      have hm : o ∈ ops.toList := by
        have := Array.mem_of_getElem? ho
        simpa using this
      have := opOk_dst (allB_iff.1 hok o hm)
      have hd : o.dst = some g := hg'
      rw [hd] at this
      have : g + 1 ≤ n := by simpa [Nat.blt] using this
      exact this
  have ht : a.tmps[g]? = some (ρ g) := by
    have := hA.tmp g hlt
    rw [Array.getD_eq_getD_getElem?] at this
    rw [Array.getElem?_eq_getElem (by rw [hA.size]; exact hlt)] at this ⊢
    simpa using this
  simp only [yielded, hg', Option.bind_some, ht]
  cases ρ g <;> rfl

theorem wops_sound (hn : n ≤ MK) (hall : allB (opOk n) ops.toList = true) : ∀ (l : List Nat) (r : List Oper), (∀ o ∈ r, o ∈ ops.toList) → l.map (fun i => ops[i]?) = r.map some → ∀ (a : Act) (ρ : Env) (w : World) (K : Env → WP),
    Agree n a ρ.val → Gd ρ → WOps P ops.toList r ρ K w →
    ∀ l2, (∀ a' ρ' w', Agree n a' ρ'.val → Gd ρ' → (∀ i, i ∉ dsts r → ρ'.val i = ρ.val i) → K ρ' w' → wpOpsIn (FR ro) 0 P ops Q l2 a' w') → wpOpsIn (FR ro) 0 P ops Q (l ++ l2) a w
  | [], [], _, _, a, ρ, w, K, hA, hG, h, l2, hK => hK a ρ w hA hG (fun _ _ => rfl) h
  | [], _ :: _, _, hl, _, _, _, _, _, _, _, _, _ => by simp at hl
  | _ :: _, [], _, hl, _, _, _, _, _, _, _, _, _ => by simp at hl
  | i :: l, o :: r, hr, hl, a, ρ, w, K, hA, hG, h, l2, hK => by
    simp only [List.map_cons, List.cons.injEq] at hl
    obtain ⟨ho, hl⟩ := hl
    have hok : opOk n o = true := allB_iff.1 hall o (hr o (by simp))
    have hrest : ∀ (ρ1 : Env) (s : SV) (a' : Act) (w' : World), Gd ρ1 → ρ1.val = ρ.val → s.Good → a' = a.put o.dst s.v → WOps P ops.toList r (ρ1.put o.dst s) K w' → wpOpsIn (FR ro) 0 P ops Q (l ++ l2) a' w' := by
      rintro ρ1 s a' w' hG1 hv1 hs rfl hw
      refine wops_sound hn hall l r (fun x hx => hr x (by simp [hx])) hl _ _ _ K (by rw [Env.val_put, hv1]; exact hA.put hn s.v (opOk_dst hok)) (hG1.put _ hs) hw l2 fun a2 ρ2 w2 hA2 hG2 hk2 hK2 => hK a2 ρ2 w2 hA2 hG2 (fun t ht => ?_) hK2
      have h1 : t ∉ dsts r := fun hm => ht (by simp only [dsts, List.flatMap_cons, List.mem_append]; exact .inr hm)
      rw [hk2 t h1, Env.val_put, hv1]
      refine VEnv.put_keep fun x hx e => ht ?_
      simp only [dsts, List.flatMap_cons, List.mem_append]
      exact .inl (by rw [hx, e]; simp)
    have hev : ∀ ρ1 : Env, ρ1.val = ρ.val → ∀ x ∈ o.op.operands, a.eval x = ev ρ1 x := fun ρ1 hv x hx => by rw [ev_val, hv]; exact hA.ev_eq (opOk_reads hok x hx)
    simp only [List.cons_append, wpOpsIn, ho]
    unfold WOps at h
    cases hg : o.guard with
    | none =>
      rw [hg] at h
      have hw : Region.wanted o (yielded ops a.tmps) = true := by simp [Region.wanted, hg]
      rw [if_pos hw]
      exact opV_sound hG (hev ρ rfl) (fun s w' hs hv => hrest ρ s _ w' hG rfl hs rfl hv) h
    | some jb =>
      obtain ⟨j, b⟩ := jb
      rw [hg] at h
      dsimp only at h
      cases hd : dstAt ops.toList j with
      | none => rw [hd] at h; exact h.elim
      | some g =>
        rw [hd] at h
        dsimp only at h
        have hy := yielded_eq hA hall hd
        have hwd : Region.wanted o (yielded ops a.tmps) = (yielded ops a.tmps j == some b) := by simp [Region.wanted, hg]
        rcases GrdW_cases (hG g) h with ⟨hx, h⟩ | ⟨hx, h⟩ | ⟨hx, h⟩
        · have hv1 : (ρ.upd g (sb b)).val = ρ.val := Env.val_know (by rw [sb_v]; exact hx)
          have hw : Region.wanted o (yielded ops a.tmps) = true := by rw [hwd, hy, show ρ.val g = _ from hx]; simp
          rw [if_pos hw]
          exact opV_sound (hG.upd g (good_sb b)) (hev _ hv1) (fun s w' hs hv => hrest _ s _ w' (hG.upd g (good_sb b)) hv1 hs rfl hv) h
        · have hv1 : (ρ.upd g (sb (!b))).val = ρ.val := Env.val_know (by rw [sb_v]; exact hx)
          have hw : ¬ Region.wanted o (yielded ops a.tmps) = true := by rw [hwd, hy, show ρ.val g = _ from hx]; cases b <;> simp
          rw [if_neg hw]
          exact ⟨fun f _ => FR_fn ro f, hrest _ su _ w (hG.upd g (good_sb _)) hv1 good_su rfl h⟩
        · have hw : ¬ Region.wanted o (yielded ops a.tmps) = true := by
            rw [hwd, hy]
            cases hv : ρ.val g with
            | bool c => exact absurd hv (hx c)
            | _ => simp
          rw [if_neg hw]
          exact ⟨fun f _ => FR_fn ro f, hrest ρ su _ w hG rfl good_su rfl h⟩
end
end Go.Jac

namespace Go.Jac
open Go

/-! ### Which operations hang on which -/
def maskOf (acc : List Nat) (o : Oper) : Nat :=
  o.after.toList.foldl (fun s e => cond (Region.binds .any e) (s ||| 2 ^ e.on ||| acc.getD e.on 0) s) 0
def bef : List Oper → List Nat → List Nat
  | [], acc => acc
  | o :: r, acc => bef r (acc ++ [maskOf acc o])
def dep (B : List Nat) (i j : Nat) : Bool := (B.getD j 0).testBit i

theorem bef_split : ∀ (l : List Oper) (acc : List Nat), ∃ t, bef l acc = acc ++ t ∧ t.length = l.length
  | [], acc => ⟨[], by simp [bef]⟩
  | o :: r, acc => by
    obtain ⟨t, ht, hl⟩ := bef_split r (acc ++ [maskOf acc o])
    exact ⟨maskOf acc o :: t, by rw [bef, ht]; simp, by simp [hl]⟩
theorem bef_entry : ∀ (l : List Oper) (acc : List Nat) (p : Nat) (o : Oper), l[p]? = some o → ∃ acc' t, (bef l acc).getD (acc.length + p) 0 = maskOf acc' o ∧ bef l acc = acc' ++ t ∧ acc'.length = acc.length + p
  | [], _, _, _, h => by simp at h
  | o :: r, acc, 0, o', h => by
    simp at h; subst h
    obtain ⟨t, ht, _⟩ := bef_split r (acc ++ [maskOf acc o])
    refine ⟨acc, maskOf acc o :: t, ?_, by rw [bef, ht]; simp, by simp⟩
    rw [bef, ht]; simp [List.getD_eq_getElem?_getD]
  | o :: r, acc, p + 1, o', h => by
    obtain ⟨acc', t, h1, h2, h3⟩ := bef_entry r (acc ++ [maskOf acc o]) p o' (by simpa using h)
    refine ⟨acc', t, ?_, by rw [bef]; exact h2, by rw [h3]; simp; omega⟩
    rw [bef, ← h1]; congr 1; simp; omega
theorem mask_bit {acc : List Nat} {q : Nat} : ∀ (es : List Edge) (s : Nat), (es.foldl (fun s e => cond (Region.binds .any e) (s ||| 2 ^ e.on ||| acc.getD e.on 0) s) s).testBit q = true →
    s.testBit q = true ∨ ∃ e ∈ es, Region.binds .any e = true ∧ (e.on = q ∨ (acc.getD e.on 0).testBit q = true)
  | [], s, h => .inl h
  | e :: es, s, h => by
    simp only [List.foldl_cons] at h
    rcases mask_bit es _ h with h | ⟨e', he, hb⟩
    · cases hb : Region.binds .any e with
      | false => rw [hb] at h; exact .inl h
      | true =>
        rw [hb] at h
        simp only [cond_true, Nat.testBit_or, Bool.or_eq_true, Nat.testBit_two_pow, decide_eq_true_eq] at h
        rcases h with (h | h) | h
        · exact .inl h
        · exact .inr ⟨e, by simp, hb, .inl h⟩
        · exact .inr ⟨e, by simp, hb, .inr h⟩
    · exact .inr ⟨e', by simp [he], hb⟩
theorem dep_step {l : List Oper} {q j : Nat} (h : dep (bef l []) q j = true) : ∃ o, l[j]? = some o ∧ ∃ e ∈ o.after.toList, Region.binds .any e = true ∧ (e.on = q ∨ dep (bef l []) q e.on = true) := by
  unfold dep at h
  cases ho : l[j]? with
  | none =>
    obtain ⟨t, ht, hl⟩ := bef_split l []
    rw [ht] at h
    have : ([] ++ t).getD j 0 = 0 := by
      rw [List.getD_eq_getElem?_getD, List.getElem?_eq_none]
      · rfl
      · simp [hl]; exact List.getElem?_eq_none_iff.1 ho
    rw [this] at h; simp at h
  | some o =>
    obtain ⟨acc', t, h1, h2, h3⟩ := bef_entry l [] j o ho
    simp only [List.length_nil, Nat.zero_add] at h1 h3
    rw [h1] at h
    rcases mask_bit _ _ h with h | ⟨e, he, hb, h⟩
    · simp at h
    · refine ⟨o, rfl, e, he, hb, h.imp id fun h => ?_⟩
      unfold dep
      rw [h2]
      by_cases hlt : e.on < acc'.length
      · rw [List.getD_eq_getElem?_getD] at h ⊢
        rw [List.getElem?_append_left hlt]; exact h
      · rw [List.getD_eq_getElem?_getD, List.getElem?_eq_none (by omega)] at h; simp at h

/-- What an operation names. -/
def namesOf (all : List Oper) (o : Oper) : List Nat :=
  o.dst.toList ++ (readsOf o ++ (match o.guard with | some (j, _) => (dstAt all j).toList | none => []))
def pairOk (all : List Oper) (x y : Oper) (d : Bool) : Bool :=
  cond d true (cond (match x.dst with | some t => hasN (namesOf all y) t | none => false) false (cond (match y.dst with | some t => hasN (namesOf all x) t | none => false) false true))
def rowOk (all : List Oper) (B : List Nat) (y : Oper) (j : Nat) : List Oper → Nat → Bool
  | [], _ => true
  | x :: r, i => cond (Nat.blt i j) (cond (pairOk all x y (dep B i j)) (rowOk all B y j r (i + 1)) false) true
def colOk (all : List Oper) (B : List Nat) : List Oper → Nat → Bool
  | [], _ => true
  | y :: r, j => cond (rowOk all B y j all 0) (colOk all B r (j + 1)) false
def edgesOk : List Oper → Nat → Bool
  | [], _ => true
  | o :: r, j => cond (allB (fun e : Edge => cond (Region.binds .any e) (Nat.blt e.on j) true) o.after.toList) (edgesOk r (j + 1)) false
/-- Whatever lies from m on hangs on all that lies ahead of m. -/
def barrier (B : List Nat) (m k : Nat) : Bool := allB (fun j => Nat.beq (Nat.land (B.getD j 0) (2 ^ m - 1)) (2 ^ m - 1)) ((List.range k).map (· + m))
/-- The segments: ends at each barrier. -/
def segs (B : List Nat) : List Oper → Nat → List Oper → List (List Oper)
  | [], _, [] => []
  | [], _, cur => [cur]
  | o :: r, m, cur => cond (barrier B (m + 1) r.length) ((cur ++ [o]) :: segs B r (m + 1) []) (segs B r (m + 1) (cur ++ [o]))
def drawOk (ops : List Oper) : Bool := cond (edgesOk ops 0) (colOk ops (bef ops []) ops 0) false

theorem rowOk_iff {all : List Oper} {B : List Nat} {y : Oper} {j : Nat} : ∀ (l : List Oper) (i : Nat), rowOk all B y j l i = true → ∀ p x, l[p]? = some x → i + p < j → pairOk all x y (dep B (i + p) j) = true
  | [], _, _, p, x, h, _ => by simp at h
  | z :: r, i, h, p, x, hx, hlt => by
    have hb : Nat.blt i j = true := by simp [Nat.blt]; omega
    rw [rowOk, hb] at h
    cases hp : pairOk all z y (dep B i j) with
    | false => rw [hp] at h; cases h
    | true =>
      rw [hp] at h
      cases p with
      | zero => simp at hx; subst hx; exact hp
      | succ p =>
        have := rowOk_iff r (i + 1) h p x (by simpa using hx) (by omega)
        rwa [show i + 1 + p = i + (p + 1) from by omega] at this
theorem colOk_iff {all : List Oper} {B : List Nat} : ∀ (l : List Oper) (j : Nat), colOk all B l j = true → ∀ p y, l[p]? = some y → rowOk all B y (j + p) all 0 = true
  | [], _, _, p, y, h => by simp at h
  | z :: r, j, h, p, y, hy => by
    cases hp : rowOk all B z j all 0 with
    | false => rw [colOk, hp] at h; cases h
    | true =>
      rw [colOk, hp] at h
      cases p with
      | zero => simp at hy; subst hy; exact hp
      | succ p =>
        have := colOk_iff r (j + 1) h p y (by simpa using hy)
        rwa [show j + 1 + p = j + (p + 1) from by omega] at this
theorem edgesOk_iff : ∀ (l : List Oper) (j : Nat), edgesOk l j = true → ∀ p o, l[p]? = some o → ∀ e ∈ o.after.toList, Region.binds .any e = true → e.on < j + p
  | [], _, _, p, o, h => by simp at h
  | z :: r, j, h, p, o, ho => by
    cases hp : allB (fun e : Edge => cond (Region.binds .any e) (Nat.blt e.on j) true) z.after.toList with
    | false => rw [edgesOk, hp] at h; cases h
    | true =>
      rw [edgesOk, hp] at h
      cases p with
      | zero =>
        simp at ho; subst ho
        intro e he hb
        have := allB_iff.1 hp e he
        rw [hb] at this
        have : e.on + 1 ≤ j := by simpa [Nat.blt] using this
        omega
      | succ p =>
        intro e he hb
        have := edgesOk_iff r (j + 1) h p o (by simpa using ho) e he hb
        omega

/-- Two operations of which one writes what the other names hang on one another. -/
theorem draw_pair {ops : List Oper} (h : drawOk ops = true) {i j : Nat} {x y : Oper} (hx : ops[i]? = some x) (hy : ops[j]? = some y) (hlt : i < j) :
    dep (bef ops []) i j = true ∨ ((∀ t, x.dst = some t → t ∉ namesOf ops y) ∧ (∀ t, y.dst = some t → t ∉ namesOf ops x)) := by
  have hc : colOk ops (bef ops []) ops 0 = true := by
    unfold drawOk at h
    cases he : edgesOk ops 0 <;> simp [he] at h ⊢; exact h
  have h1 := colOk_iff ops 0 hc j y hy
  rw [Nat.zero_add] at h1
  have h2 := rowOk_iff ops 0 h1 i x hx (by omega)
  rw [Nat.zero_add] at h2
  unfold pairOk at h2
  cases hd : dep (bef ops []) i j with
  | true => exact .inl rfl
  | false =>
    rw [hd] at h2
    right
    simp only [cond_false] at h2
    constructor
    · intro t ht hm
      rw [ht] at h2
      simp only [hasN_iff.2 hm, cond_true] at h2
      cases h2
    · intro t ht hm
      cases hc1 : (match x.dst with | some t => hasN (namesOf ops y) t | none => false) with
      | true => rw [hc1] at h2; cases h2
      | false =>
        rw [hc1, ht] at h2
        simp only [hasN_iff.2 hm, cond_true, cond_false] at h2
        cases h2
theorem draw_edge {ops : List Oper} (h : drawOk ops = true) {j : Nat} {o : Oper} (ho : ops[j]? = some o) {e : Edge} (he : e ∈ o.after.toList) (hb : Region.binds .any e = true) : e.on < j := by
  have hc : edgesOk ops 0 = true := by
    unfold drawOk at h
    cases he : edgesOk ops 0 <;> simp [he] at h ⊢
  have := edgesOk_iff ops 0 hc j o ho e he hb
  omega
theorem barrier_iff {B : List Nat} {m k : Nat} (h : barrier B m k = true) {i j : Nat} (hi : i < m) (hj : m ≤ j) (hjk : j < m + k) : dep B i j = true := by
  have := allB_iff.1 h j (by simp only [List.mem_map, List.mem_range]; exact ⟨j - m, by omega, by omega⟩)
  have := Nat.eq_of_beq_eq_true this
  have h2 : (Nat.land (B.getD j 0) (2 ^ m - 1)).testBit i = (2 ^ m - 1).testBit i := by rw [this]
  rw [show Nat.land (B.getD j 0) (2 ^ m - 1) = (B.getD j 0) &&& (2 ^ m - 1) from rfl, Nat.testBit_and, Nat.testBit_two_pow_sub_one] at h2
  simpa [hi, dep] using h2
end Go.Jac

namespace Go.Jac
open Go

def pureOp (o : Oper) : Bool := match o.op with
  | .move _ => true
  | .assign _ => true
  | _ => false
theorem pure_not {o : Oper} (h1 : ∀ x, o.op = .move x → False) (h2 : ∀ x, o.op = .assign x → False) : pureOp o = false := by
  unfold pureOp
  split
  · rename_i e; exact (h1 _ e).elim
  · rename_i e; exact (h2 _ e).elim
  · rfl
/-- What only reads. -/
def readOp (o : Oper) : Bool := match o.op with
  | .move _ => true
  | .assign _ => true
  | .pick _ _ _ => true
  | .build _ _ => true
  | .load _ _ => true
  | .nilCheck _ => true
  | .binOp _ _ _ _ _ => true
  | .unOp _ _ _ => true
  | .convert _ _ _ => true
  | .makeFunc _ _ _ => true
  | .slice _ _ _ _ _ => true
  | .fieldAddr _ _ _ => true
  | .field _ _ _ => true
  | .indexAddr _ _ _ => true
  | .index _ _ _ => true
  | .lookup _ _ _ _ => true
  | .extract _ _ => true
  | .call c => match c.callee with
    | .builtin .len => true
    | .builtin .cap => true
    | .builtin .min => true
    | .builtin .max => true
    | _ => false
  | _ => false
/-- Those of a segment that are in a row: what does more than read, and what hangs on such. -/
def chs (B : List Nat) : List Oper → Nat → Nat → Nat
  | [], _, M => M
  | o :: r, j, M => chs B r (j + 1) (cond (readOp o) (cond (Nat.beq (Nat.land (B.getD j 0) M) 0) M (M ||| 2 ^ j)) (M ||| 2 ^ j))
def pairS (d cq cp : Bool) : Bool := cond cq (cond cp true (!d)) true
def colS (B : List Nat) (M m p : Nat) : Nat → Bool
  | 0 => true
  | q + 1 => cond (pairS (dep B (m + q) (m + p)) (M.testBit (m + q)) (M.testBit (m + p))) (colS B M m p q) false
def segOk (B : List Nat) (M m : Nat) : Nat → Bool
  | 0 => true
  | p + 1 => cond (colS B M m p p) (segOk B M m p) false
theorem colS_iff {B : List Nat} {M m p : Nat} : ∀ {n : Nat}, colS B M m p n = true → ∀ q, q < n → pairS (dep B (m + q) (m + p)) (M.testBit (m + q)) (M.testBit (m + p)) = true
  | 0, _, q, hq => by omega
  | n + 1, h, q, hq => by
    unfold colS at h
    cases hp : pairS (dep B (m + n) (m + p)) (M.testBit (m + n)) (M.testBit (m + p)) with
    | false => rw [hp] at h; cases h
    | true =>
      rw [hp] at h
      by_cases e : q = n
      · subst e; exact hp
      · exact colS_iff h q (by omega)
theorem segOk_iff {B : List Nat} {M m : Nat} : ∀ {n : Nat}, segOk B M m n = true → ∀ p q, p < n → q < p → pairS (dep B (m + q) (m + p)) (M.testBit (m + q)) (M.testBit (m + p)) = true
  | 0, _, p, q, hp, _ => by omega
  | n + 1, h, p, q, hp, hq => by
    unfold segOk at h
    cases hc : colS B M m n n with
    | false => rw [hc] at h; cases h
    | true =>
      rw [hc] at h
      by_cases e : p = n
      · subst e; exact colS_iff hc q hq
      · exact segOk_iff h p q (by omega) hq
/-- Might one of those that read still be ahead? -/
def needI (B : List Nat) (M p : Nat) : List Oper → Nat → Bool
  | [], _ => false
  | o :: r, q => cond (pureOp o) (needI B M p r (q + 1)) (cond (M.testBit q) (needI B M p r (q + 1)) (cond (dep B q p) (needI B M p r (q + 1)) true))
theorem needI_iff {B : List Nat} {M p : Nat} : ∀ {s : List Oper} {q : Nat}, needI B M p s q = false → ∀ i o, s[i]? = some o → pureOp o = false → M.testBit (q + i) = false → dep B (q + i) p = true
  | [], _, _, i, o, ho, _, _ => by simp at ho
  | x :: r, q, h, 0, o, ho, hp, hM => by
    simp only [List.getElem?_cons_zero, Option.some.injEq] at ho
    subst ho
    rw [needI, hp] at h
    simp only [Nat.add_zero] at hM ⊢
    rw [hM] at h
    cases hd : dep B q p with
    | true => rfl
    | false => rw [hd] at h; cases h
  | x :: r, q, h, i + 1, o, ho, hp, hM => by
    have ih : needI B M p r (q + 1) = false := by
      rw [needI] at h
      cases h1 : pureOp x with
      | true => rw [h1] at h; exact h
      | false =>
        rw [h1] at h
        cases h2 : M.testBit q with
        | true => rw [h2] at h; exact h
        | false =>
          rw [h2] at h
          cases h3 : dep B q p with
          | true => rw [h3] at h; exact h
          | false => rw [h3] at h; cases h
    have := needI_iff ih i o (by simpa using ho) hp (by rwa [show q + 1 + i = q + (i + 1) from by omega])
    rwa [show q + 1 + i = q + (i + 1) from by omega] at this

def QtC (F : WP → WP) : WP := fun w => ∃ I : WP, I w ∧ F I w
def QE (I : WP) (A : (Value → WP) → WP) (B : Value → WP) : WP := fun w => ∃ v, (∀ w', I w' → A (fun v' w'' => v' = v ∧ w'' = w') w') ∧ B v w
def CH (I : WP) (K : WP) : WP := fun w => I w ∧ K w
def Drw (A : WP) : WP := fun w => A { w with drawn := w.drawn + 1 }
def AllE (A : WP) : WP := fun w => ∀ _ : Env, A w
def QRun (P : Program) (I : WP) (o : Oper) (ρ : Env) (v : Value) : Prop := ∀ w, (pureOp o = false → I w) → OpV P o ρ (fun s w' => s.v = v ∧ w' = w) w
def QOp (P : Program) (I : WP) (o : Oper) (ρ : Env) (B : SV → WP) : WP := match o.op with
  | .move x => B (evS ρ x)
  | .assign x => B (evS ρ x)
  | _ => QE I (fun KK => OpV P o ρ fun s => KK s.v) fun v => B (dy v)
theorem QOp.out {P : Program} {I : WP} {o : Oper} {ρ : Env} {B : SV → WP} {w : World} (hG : Gd ρ) (h : QOp P I o ρ B w) : ∃ s, s.Good ∧ QRun P I o ρ s.v ∧ B s w := by
  obtain ⟨dst, op, ty, pos, after, guard⟩ := o
  cases op <;> first
    | exact ⟨_, good_evS hG _, fun w _ => ⟨rfl, rfl⟩, h⟩
    | (obtain ⟨v, h3, h4⟩ := h
       exact ⟨dy v, trivial, fun w hw => h3 w (hw rfl), h4⟩)

/-! ### What is read ahead of being written; places where ways meet -/
def notIn (d : List Nat) (l : List Nat) : List Nat := match l with
  | [] => []
  | x :: r => cond (hasN d x) (notIn d r) (x :: notIn d r)
def ueOps (all : List Oper) : List Oper → List Nat → List Nat
  | [], _ => []
  | o :: r, d => notIn d (readsOf o ++ (match o.guard with | some (j, _) => (dstAt all j).toList | none => [])) ++ ueOps all r (o.dst.toList ++ d)
def dedup : List Nat → List Nat
  | [] => []
  | x :: r => cond (hasN r x) (dedup r) (x :: dedup r)
def both (l m : List Nat) : List Nat := match l with
  | [] => []
  | x :: r => cond (hasN m x) (x :: both r m) (both r m)
def liveL (md lv : List Nat) : List Nat := both (dedup md) lv
def vals (ρ : Env) (l : List Nat) : List Value := l.map fun t => (ρ t).v
def UN (vs : List Value) (K : Value → List Value → WP) : WP := fun w => match vs with | v :: r => K v r w | [] => False
def unp : List Nat → List Value → Env → (Env → WP) → WP
  | [], _, ρ, B => B ρ
  | i :: r, vs, ρ, B => UN vs fun v vs' => unp r vs' (ρ.upd i (dy v)) B
def unpX : List Nat → List Value → Env → (Env → WP) → WP
  | [], vs, ρ, B => fun w => match vs with | [] => B ρ w | _ => False
  | i :: r, vs, ρ, B => UN vs fun v vs' => unpX r vs' (ρ.upd i (dy v)) B
def UNe (vs : List Value) (A : WP) : WP := fun w => match vs with | [] => A w | _ => False
def mix (md : List Nat) (j ρ : Env) : Env := fun i => cond (hasN md i) (j i) (ρ i)
def LoopC (init : List Value) (body : (List Value → WP) → List Value → WP) : WP := fun w =>
  ∃ (I : List Value → WP) (μ : List Value → World → Nat), I init w ∧ ∀ vs w, I vs w → body (fun vs' w' => I vs' w' ∧ μ vs' w' < μ vs w) vs w
def JoinC (b : List Value → WP) (a : (List Value → WP) → WP) : WP := fun w => ∀ K : List Value → WP, (∀ vs w', b vs w' → K vs w') → a K w

/-- First those that read. -/
def WRd (P : Program) (all : List Oper) (M : Nat) (I : WP) : List Oper → Nat → Env → (Env → WP) → WP
  | [], _, ρ, C => C ρ
  | o :: r, p, ρ, C => condW (M.testBit p) (WRd P all M I r (p + 1) ρ C) (match o.guard with
    | none => QOp P I o ρ fun v => WRd P all M I r (p + 1) (ρ.put o.dst v) C
    | some (j, b) => match dstAt all j with
      | some g => GrdW (ρ g) b (QOp P I o (ρ.upd g (sb b)) fun v => WRd P all M I r (p + 1) ((ρ.upd g (sb b)).put o.dst v) C) (WRd P all M I r (p + 1) ((ρ.upd g (sb (!b))).put o.dst su) C) (WRd P all M I r (p + 1) (ρ.put o.dst su) C)
      | none => fun _ => False)
def And2 (A B : WP) : WP := fun w => A w ∧ B w
def allW : List WP → WP
  | [] => fun _ => True
  | [A] => A
  | A :: B :: r => And2 A (allW (B :: r))
theorem allW_mem : ∀ {l : List WP} {w : World}, allW l w → ∀ A ∈ l, A w
  | [], _, _, A, h => by cases h
  | [B], w, h, A, hm => by rw [List.mem_singleton.1 hm]; exact h
  | B :: C :: r, w, h, A, hm => by
    rcases List.mem_cons.1 hm with e | hm
    · rw [e]; exact h.1
    · exact allW_mem (l := C :: r) h.2 A hm
/-- Those of the others that are ahead. -/
def chL (M : Nat) : List Oper → Nat → List (Nat × Oper)
  | [], _ => []
  | o :: r, p => cond (M.testBit p) ((p, o) :: chL M r (p + 1)) (chL M r (p + 1))
def frontB (B : List Nat) (p : Nat) : List (Nat × Oper) → Bool
  | [] => true
  | x :: r => cond (Nat.beq x.1 p) (frontB B p r) (cond (dep B x.1 p) false (frontB B p r))
def dropU (p : Nat) : List (Nat × Oper) → List (Nat × Oper)
  | [] => []
  | x :: r => cond (Nat.beq x.1 p) (dropU p r) (x :: dropU p r)
def fronts (B : List Nat) (U : List (Nat × Oper)) : List (Nat × Oper) → List (Nat × Oper)
  | [] => []
  | x :: r => cond (frontB B x.1 U) (x :: fronts B U r) (fronts B U r)
/-- Then the others: any that may be next. -/
def WCh (P : Program) (all : List Oper) (B : List Nat) (M : Nat) (I : WP) (s : List Oper) (m : Nat) : Nat → List (Nat × Oper) → Env → (Env → WP) → WP
  | 0, U, ρ, C => match U with | [] => C ρ | _ => fun _ => False
  | n + 1, U, ρ, C => match U with
    | [] => C ρ
    | _ => allW ((fronts B U U).map fun x => WOps P all [x.2] ρ fun ρ' => condW (needI B M x.1 s m) (CH I (WCh P all B M I s m n (dropU x.1 U) ρ' C)) (WCh P all B M I s m n (dropU x.1 U) ρ' C))
/-- All in a row. -/
def rowB (B : List Nat) : List (Nat × Oper) → Bool
  | [] => true
  | x :: r => cond (allB (fun y => dep B x.1 y.1) r) (rowB B r) false
def WSeg (P : Program) (all : List Oper) (B : List Nat) (A : List Nat) (s : List Oper) (m M : Nat) (ρ : Env) (C : Env → WP) : WP :=
  cond (segOk B M m s.length) (cond (rowB B (chL M s m))
      (QtC fun I => WRd P all M I s m ρ fun ρ' => WCh P all B M I s m (chL M s m).length (chL M s m) ρ' C)
      (JoinC (fun vs w => ∀ j : Env, unp (liveL (dsts s) A) vs (mix (dsts s) j ρ) C w)
        fun K => QtC fun I => WRd P all M I s m ρ fun ρ' => WCh P all B M I s m (chL M s m).length (chL M s m) ρ' fun ρ'' => K (vals ρ'' (liveL (dsts s) A))))
    (fun _ => False)
def WDr (P : Program) (all : List Oper) (B : List Nat) (A : List Nat) : List (List Oper) → Nat → Env → (Env → WP) → WP
  | [], _, ρ, K => K ρ
  | [o] :: r, m, ρ, K => WOps P all [o] ρ fun ρ' => WDr P all B A r (m + 1) ρ' K
  | s :: r, m, ρ, K => WSeg P all B (ueOps all r.flatten [] ++ A) s m (chs B s m 0) ρ fun ρ' => WDr P all B A r (m + s.length) ρ' K

/-! ### The facts that such a walk leaves -/
def QAt (P : Program) (I : WP) (o : Oper) (E : VEnv) (v : Value) : Prop := ∃ ρ : Env, ρ.val = E ∧ Gd ρ ∧ QRun P I o ρ v
def QStep (P : Program) (all : List Oper) (I : WP) (o : Oper) (E : VEnv) (v : Value) : Prop := match o.guard with
  | none => QAt P I o E v
  | some (j, b) => ∃ g, dstAt all j = some g ∧ ((E g = .bool b ∧ QAt P I o E v) ∨ (E g ≠ .bool b ∧ v = undef))
def QF (P : Program) (all : List Oper) (M : Nat) (I : WP) : Nat → List Oper → List Value → VEnv → VEnv → Prop
  | _, [], [], ρ, ρe => ρe = ρ
  | p, o :: r, v :: vs, ρ, ρe => (M.testBit p = false → QStep P all I o ρ v) ∧ QF P all M I (p + 1) r vs (cond (M.testBit p) ρ (ρ.put o.dst v)) ρe
  | _, _, _, _, _ => False
theorem wr_facts {P : Program} {all : List Oper} {M : Nat} {I : WP} {w : World} : ∀ (r : List Oper) (p : Nat) (ρ : Env) (C : Env → WP), Gd ρ → WRd P all M I r p ρ C w → ∃ vs ρe, Gd ρe ∧ QF P all M I p r vs ρ.val ρe.val ∧ C ρe w
  | [], _, ρ, C, hG, h => ⟨[], ρ, hG, rfl, h⟩
  | o :: r, p, ρ, C, hG, h => by
    unfold WRd at h
    cases hM : M.testBit p with
    | true =>
      rw [hM] at h
      obtain ⟨vs, ρe, hGe, hq, hc⟩ := wr_facts r (p + 1) ρ C hG h
      exact ⟨undef :: vs, ρe, hGe, ⟨fun e => absurd (hM.symm.trans e) (by simp), by rw [hM]; exact hq⟩, hc⟩
    | false =>
      rw [hM] at h
      simp only [condW_false] at h
      cases hg : o.guard with
      | none =>
        rw [hg] at h
        obtain ⟨s, hs, hv, h⟩ := QOp.out hG h
        obtain ⟨vs, ρe, hGe, hq, hc⟩ := wr_facts r (p + 1) _ C (hG.put _ hs) h
        rw [Env.val_put] at hq
        exact ⟨s.v :: vs, ρe, hGe, ⟨fun _ => by unfold QStep; rw [hg]; exact ⟨ρ, rfl, hG, hv⟩, by rw [hM]; exact hq⟩, hc⟩
      | some jb =>
        obtain ⟨j, b⟩ := jb
        rw [hg] at h
        dsimp only at h
        cases hd : dstAt all j with
        | none => rw [hd] at h; exact h.elim
        | some g =>
          rw [hd] at h
          dsimp only at h
          rcases GrdW_cases (hG g) h with ⟨hx, h⟩ | ⟨hx, h⟩ | ⟨hx, h⟩
          · have hv1 : (ρ.upd g (sb b)).val = ρ.val := Env.val_know (by rw [sb_v]; exact hx)
            obtain ⟨s, hs, hv, h⟩ := QOp.out (hG.upd g (good_sb b)) h
            obtain ⟨vs, ρe, hGe, hq, hc⟩ := wr_facts r (p + 1) _ C ((hG.upd g (good_sb b)).put _ hs) h
            rw [Env.val_put, hv1] at hq
            exact ⟨s.v :: vs, ρe, hGe, ⟨fun _ => by unfold QStep; rw [hg]; exact ⟨g, hd, .inl ⟨hx, _, hv1, hG.upd g (good_sb b), hv⟩⟩, by rw [hM]; exact hq⟩, hc⟩
          · have hv1 : (ρ.upd g (sb (!b))).val = ρ.val := Env.val_know (by rw [sb_v]; exact hx)
            obtain ⟨vs, ρe, hGe, hq, hc⟩ := wr_facts r (p + 1) _ C ((hG.upd g (good_sb _)).put _ good_su) h
            rw [Env.val_put, hv1] at hq
            exact ⟨undef :: vs, ρe, hGe, ⟨fun _ => by unfold QStep; rw [hg]; exact ⟨g, hd, .inr ⟨by rw [show ρ.val g = _ from hx]; cases b <;> simp, rfl⟩⟩, by rw [hM]; exact hq⟩, hc⟩
          · obtain ⟨vs, ρe, hGe, hq, hc⟩ := wr_facts r (p + 1) _ C (hG.put _ good_su) h
            rw [Env.val_put] at hq
            exact ⟨undef :: vs, ρe, hGe, ⟨fun _ => by unfold QStep; rw [hg]; exact ⟨g, hd, .inr ⟨hx b, rfl⟩⟩, by rw [hM]; exact hq⟩, hc⟩
theorem QF_len {P : Program} {all : List Oper} {M : Nat} {I : WP} : ∀ (s : List Oper) (vs : List Value) (ρ ρe : VEnv) (p : Nat), QF P all M I p s vs ρ ρe → vs.length = s.length
  | [], [], _, _, _, _ => rfl
  | [], _ :: _, _, _, _, h => h.elim
  | _ :: _, [], _, _, _, h => h.elim
  | _ :: r, _ :: vs, _, _, _, h => by simp [QF_len r vs _ _ _ h.2]

/-- The environment behind those operations of a segment that T says. -/
def ET : List Oper → List Value → (Nat → Bool) → VEnv → VEnv
  | o :: r, v :: vs, T, ρ => ET r vs (fun q => T (q + 1)) (cond (T 0) (ρ.put o.dst v) ρ)
  | _, _, _, ρ => ρ
theorem ET_none : ∀ (s : List Oper) (vs : List Value) (T : Nat → Bool) (ρ : VEnv) (t : Nat), (∀ q o, s[q]? = some o → o.dst = some t → T q = false) → ET s vs T ρ t = ρ t
  | [], _, _, _, _, _ => rfl
  | _ :: _, [], _, _, _, _ => rfl
  | o :: r, v :: vs, T, ρ, t, h => by
    rw [ET, ET_none r vs _ _ t fun q o' ho hd => h (q + 1) o' (by simpa using ho) hd]
    cases h0 : T 0 with
    | false => rfl
    | true =>
      refine VEnv.put_keep fun x hx e => ?_
      have := h 0 o rfl (by rw [hx, e])
      rw [h0] at this; cases this
theorem ET_congr : ∀ (s : List Oper) (vs vs' : List Value) (T T' : Nat → Bool) (ρ ρ' : VEnv) (t : Nat), vs.length = vs'.length → (∀ q o, s[q]? = some o → o.dst = some t → T q = T' q ∧ (T q = true → vs[q]? = vs'[q]?)) → ρ t = ρ' t → ET s vs T ρ t = ET s vs' T' ρ' t
  | [], _, _, _, _, _, _, _, _, _, h => h
  | _ :: _, [], [], _, _, _, _, _, _, _, h => h
  | _ :: _, [], _ :: _, _, _, _, _, _, hl, _, _ => by simp at hl
  | _ :: _, _ :: _, [], _, _, _, _, _, hl, _, _ => by simp at hl
  | o :: r, v :: vs, v' :: vs', T, T', ρ, ρ', t, hl, h, he => by
    rw [ET, ET]
    refine ET_congr r vs vs' _ _ _ _ t (by simpa using hl) (fun q o' ho hd => ?_) ?_
    · have := h (q + 1) o' (by simpa using ho) hd
      simpa using this
    cases hd : o.dst with
    | none => cases T 0 <;> cases T' 0 <;> simp [VEnv.put, he]
    | some x =>
      by_cases e : t = x
      · subst e
        obtain ⟨h1, h2⟩ := h 0 o rfl hd
        rw [← h1]
        cases h0 : T 0 with
        | false => simp [he]
        | true =>
          have := h2 h0
          simp only [List.getElem?_cons_zero, Option.some.injEq] at this
          simp [VEnv.put, VEnv.upd_same, this]
      · cases T 0 <;> cases T' 0 <;> simp [VEnv.put, he, VEnv.upd_ne _ _ e]
theorem ET_at : ∀ (s : List Oper) (vs : List Value) (T : Nat → Bool) (ρ : VEnv) (p : Nat) (o : Oper) (v : Value) (t : Nat), s[p]? = some o → vs[p]? = some v → o.dst = some t → T p = true →
    (∀ q o', s[q]? = some o' → o'.dst = some t → p < q → T q = false) → ET s vs T ρ t = v
  | [], _, _, _, _, _, _, _, h, _, _, _, _ => by simp at h
  | _ :: _, [], _, _, _, _, _, _, _, h, _, _, _ => by simp at h
  | o :: r, v :: vs, T, ρ, 0, o', v', t, ho, hv, hd, hT, h => by
    simp only [List.getElem?_cons_zero, Option.some.injEq] at ho hv
    subst ho; subst hv
    rw [ET, ET_none r vs _ _ t fun q o' ho hd' => h (q + 1) o' (by simpa using ho) hd' (by omega), hT]
    simp [VEnv.put, hd, VEnv.upd_same]
  | o :: r, v :: vs, T, ρ, p + 1, o', v', t, ho, hv, hd, hT, h => by
    rw [ET]
    exact ET_at r vs _ _ p o' v' t (by simpa using ho) (by simpa using hv) hd hT fun q o'' ho'' hd'' hlt => h (q + 1) o'' (by simpa using ho'') hd'' (by omega)
theorem ET_mask : ∀ (s : List Oper) (vs : List Value) (T T' : Nat → Bool) (ρ : VEnv), (∀ q, q < s.length → T q = T' q) → ET s vs T ρ = ET s vs T' ρ
  | [], _, _, _, _, _ => rfl
  | _ :: _, [], _, _, _, _ => rfl
  | o :: r, v :: vs, T, T', ρ, h => by
    rw [ET, ET, h 0 (by simp)]
    exact ET_mask r vs _ _ _ fun q hq => h (q + 1) (by simp; omega)
/-- The environment behind the reading. -/
theorem QF_env {P : Program} {all : List Oper} {M : Nat} {I : WP} : ∀ (s : List Oper) (vs : List Value) (ρ ρe : VEnv) (p : Nat), QF P all M I p s vs ρ ρe → ρe = ET s vs (fun q => !M.testBit (p + q)) ρ
  | [], [], _, _, _, h => h
  | [], _ :: _, _, _, _, h => h.elim
  | _ :: _, [], _, _, _, h => h.elim
  | o :: r, v :: vs, ρ, ρe, p, h => by
    have := QF_env r vs _ ρe (p + 1) h.2
    rw [this, ET]
    have e1 : (cond (M.testBit p) ρ (ρ.put o.dst v)) = (cond (!M.testBit (p + 0)) (ρ.put o.dst v) ρ) := by rw [Nat.add_zero]; cases M.testBit p <;> rfl
    rw [e1]
    have e2 : (fun q => !M.testBit (p + 1 + q)) = fun q => !M.testBit (p + (q + 1)) := by funext q; rw [show p + 1 + q = p + (q + 1) from by omega]
    rw [e2]
/-- What is known of the operation at p, told of the environment behind those ahead of it that read. -/
theorem QF_at {P : Program} {all : List Oper} {M : Nat} {I : WP} : ∀ (s : List Oper) (vs : List Value) (ρ ρe : VEnv) (k : Nat), QF P all M I k s vs ρ ρe → ∀ p o, s[p]? = some o → M.testBit (k + p) = false →
    ∃ v, vs[p]? = some v ∧ QStep P all I o (ET s vs (fun q => decide (q < p) && !M.testBit (k + q)) ρ) v
  | [], _, _, _, _, _, p, o, ho, _ => by simp at ho
  | _ :: _, [], _, _, _, h, _, _, _, _ => h.elim
  | o :: r, v :: vs, ρ, ρe, k, h, 0, o', ho, hM => by
    simp only [List.getElem?_cons_zero, Option.some.injEq] at ho
    subst ho
    refine ⟨v, rfl, ?_⟩
    have : ET (o :: r) (v :: vs) (fun q => decide (q < 0) && !M.testBit (k + q)) ρ = ρ := by
      funext t; exact ET_none _ _ _ _ _ fun q o' _ _ => by simp
    rw [this]; exact h.1 (by simpa using hM)
  | o :: r, v :: vs, ρ, ρe, k, h, p + 1, o', ho, hM => by
    obtain ⟨v', hv', hq⟩ := QF_at r vs _ ρe (k + 1) h.2 p o' (by simpa using ho) (by rwa [show k + 1 + p = k + (p + 1) from by omega])
    refine ⟨v', by simpa using hv', ?_⟩
    rw [ET]
    have : (cond (decide (0 < p + 1) && !M.testBit (k + 0)) (ρ.put o.dst v) ρ) = cond (M.testBit k) ρ (ρ.put o.dst v) := by rw [Nat.add_zero]; cases M.testBit k <;> simp
    rw [this]
    have e : (fun q => decide (q + 1 < p + 1) && !M.testBit (k + (q + 1))) = fun q => decide (q < p) && !M.testBit (k + 1 + q) := by funext q; rw [show k + 1 + q = k + (q + 1) from by omega]; simp
    rw [e]; exact hq
end Go.Jac

namespace Go.Jac
open Go

section
variable {P : Program} {n : Nat} {ro : Option Nat} {ops : Array Oper} {Q : Exit → Act → World → Prop}

def lst (L : Array Bool) (i : Nat) : Bool := L.getD i false
theorem lst_set {L : Array Bool} {i j : Nat} (hi : i < L.size) : lst (L.setIfInBounds i true) j = (decide (j = i) || lst L j) := by
  unfold lst
  rw [Array.getD_eq_getD_getElem?, Array.getD_eq_getD_getElem?]
  by_cases e : j = i
  · subst e
    simp [hi]
  · rw [Array.getElem?_setIfInBounds_ne (fun h => e h.symm)]; simp [e]
theorem ready_iff {L : Array Bool} {i : Nat} (h : i ∈ Region.ready .any ops L) (hs : L.size = ops.size) : i < ops.size ∧ lst L i = false ∧ ∃ o, ops[i]? = some o ∧ ∀ e ∈ o.after.toList, Region.binds .any e = true → lst L e.on = true := by
  simp only [Region.ready, List.mem_filter, List.mem_range, Bool.and_eq_true, Bool.not_eq_true'] at h
  obtain ⟨hi, h1, h2⟩ := h
  refine ⟨hi, ?_, ?_⟩
  · unfold lst
    rw [Array.getD_eq_getD_getElem?] at h1 ⊢
    rw [Array.getElem?_eq_getElem (by omega)] at h1 ⊢
    simpa using h1
  · rw [Array.getElem?_eq_getElem hi] at h2 ⊢
    refine ⟨_, rfl, fun e he hb => ?_⟩
    simp only [Option.map_some, Option.getD_some, Array.all_eq_true_iff_forall_mem, Bool.or_eq_true, Bool.not_eq_true'] at h2
    rcases h2 e (by simpa using he) with h | h
    · rw [hb] at h; cases h
    · exact h
/-- Whatever an operation hangs on has been done. -/
def Closed (ops : Array Oper) (L : Array Bool) : Prop := ∀ j, lst L j = true → ∀ q, dep (bef ops.toList []) q j = true → lst L q = true
theorem dep_done {L : Array Bool} (hc : Closed ops L) {i : Nat} (h : ∃ o, ops[i]? = some o ∧ ∀ e ∈ o.after.toList, Region.binds .any e = true → lst L e.on = true) :
    ∀ q, dep (bef ops.toList []) q i = true → lst L q = true := by
  intro q hq
  obtain ⟨o, ho, h⟩ := h
  obtain ⟨o', ho', e, he, hb, hd⟩ := dep_step hq
  have : o' = o := by
    rw [Array.getElem?_toList] at ho'
    rw [ho'] at ho; exact Option.some.inj ho
  subst this
  have h1 := h e he hb
  rcases hd with rfl | hd
  · exact h1
  · exact hc _ h1 q hd
theorem Closed.set {L : Array Bool} (hc : Closed ops L) (hs : L.size = ops.size) {i : Nat} (h : i ∈ Region.ready .any ops L) : Closed ops (L.setIfInBounds i true) := by
  obtain ⟨hi, _, hr⟩ := ready_iff h hs
  intro j hj q hq
  rw [lst_set (by omega)] at hj ⊢
  by_cases e : j = i
  · subst e
    rw [dep_done hc hr q hq]; simp
  · simp [e] at hj
    rw [hc j hj q hq]; simp

/-- Between two segments. -/
structure At0 (Av : List Nat) (P : Program) (n : Nat) (ops : Array Oper) (ρ0 : VEnv) (K : Env → WP) (L : Array Bool) (a : Act) (w : World) (m : Nat) (sg : List (List Oper)) (ρ : Env) : Prop where
  done : ∀ i, lst L i = true ↔ i < m
  flat : sg.flatten = ops.toList.drop m
  ne : ∀ s ∈ sg, s ≠ []
  bar : ∀ k, k ≤ sg.length → ∀ i j, i < m + ((sg.take k).flatten).length → m + ((sg.take k).flatten).length ≤ j → j < ops.size → dep (bef ops.toList []) i j = true
  le : m ≤ ops.size
  agree : Agree n a ρ.val
  good : Gd ρ
  keep : ∀ i, i ∉ dsts ops.toList → ρ.val i = ρ0 i
  walk : WDr P ops.toList (bef ops.toList []) Av sg m ρ K w
/-- Within a segment. -/
structure At1 (Av : List Nat) (P : Program) (n : Nat) (ops : Array Oper) (ρ0 : VEnv) (K : Env → WP) (L : Array Bool) (a : Act) (w : World) (m : Nat) (s : List Oper) (sg : List (List Oper)) (ρ : VEnv) (ρc : Env) (vs : List Value) (T : Nat → Bool) (I : WP) (M fu : Nat) (U : List (Nat × Oper)) (C : Env → WP) : Prop where
  done : ∀ i, lst L i = true ↔ (i < m ∨ (m ≤ i ∧ i < m + s.length ∧ T (i - m) = true))
  flat : s ++ sg.flatten = ops.toList.drop m
  ne : ∀ s ∈ sg, s ≠ []
  bar : ∀ k, k ≤ sg.length → ∀ i j, i < m + s.length + ((sg.take k).flatten).length → m + s.length + ((sg.take k).flatten).length ≤ j → j < ops.size → dep (bef ops.toList []) i j = true
  le : m + s.length ≤ ops.size
  agree : Agree n a (ET s vs T ρ)
  keep : ∀ i, i ∉ dsts ops.toList → ρ i = ρ0 i
  seg : segOk (bef ops.toList []) M m s.length = true
  vlen : vs.length = s.length
  facts : ∀ p o, s[p]? = some o → M.testBit (m + p) = false → ∃ v, vs[p]? = some v ∧ QStep P ops.toList I o (ET s vs (fun q => decide (q < p) && !M.testBit (m + q)) ρ) v
  good : Gd ρc
  env : ρc.val = ET s vs (fun q => !M.testBit (m + q) || T q) ρ
  ahead : ∀ q o, (m + q, o) ∈ U ↔ s[q]? = some o ∧ M.testBit (m + q) = true ∧ T q = false
  inU : ∀ x ∈ U, ∃ q, x.1 = m + q
  fuel : U.length ≤ fu
  inv : I w ∨ ∀ q o, s[q]? = some o → M.testBit (m + q) = false → pureOp o = false → T q = true
  fin : ∀ ρ' w', Gd ρ' → (∀ i, i ∉ dsts s → ρ'.val i = ρ i) → C ρ' w' → ∃ ρ'' : Env, ρ''.val = ρ'.val ∧ Gd ρ'' ∧ WDr P ops.toList (bef ops.toList []) Av sg (m + s.length) ρ'' K w'
  walk : WCh P ops.toList (bef ops.toList []) M I s m fu U ρc C w

theorem mix_val {md : List Nat} {ρ1 ρ : Env} (h : ∀ i, i ∉ md → ρ1.val i = ρ.val i) : (mix md ρ1 ρ).val = ρ1.val := by
  funext i
  show (cond (hasN md i) (ρ1 i) (ρ i)).v = (ρ1 i).v
  cases hm : hasN md i with
  | true => rfl
  | false =>
    rw [cond_false]
    exact (h i fun hi => by rw [hasN_iff.2 hi] at hm; cases hm).symm
theorem mix_good {md : List Nat} {ρ1 ρ : Env} (h1 : Gd ρ1) (h : Gd ρ) : Gd (mix md ρ1 ρ) := by
  intro i
  unfold mix
  cases hasN md i with
  | true => exact h1 i
  | false => exact h i
theorem unp_self {B : Env → WP} {w : World} {E : VEnv} : ∀ (lv : List Nat) (ρ : Env), ρ.val = E → Gd ρ → unp lv (lv.map E) ρ B w → ∃ ρ', ρ'.val = E ∧ Gd ρ' ∧ B ρ' w
  | [], ρ, he, hg, h => ⟨ρ, he, hg, h⟩
  | i :: r, ρ, he, hg, h => by
    simp only [unp, List.map_cons, UN] at h
    refine unp_self r _ ?_ (hg.upd i (good_dy _)) h
    rw [Env.val_upd, he]
    exact VEnv.upd_self rfl
theorem unp_use {B : Env → WP} {w : World} {md lv : List Nat} {ρ1 ρ : Env} (h1 : Gd ρ1) (hg : Gd ρ) (hk : ∀ i, i ∉ md → ρ1.val i = ρ.val i) (h : ∀ j : Env, unp lv (vals ρ1 lv) (mix md j ρ) B w) : ∃ ρ', ρ'.val = ρ1.val ∧ Gd ρ' ∧ B ρ' w :=
  unp_self lv _ (mix_val hk) (mix_good h1 hg) (h ρ1)
theorem ET_keep : ∀ (s : List Oper) (vs : List Value) (T : Nat → Bool) (ρ : VEnv) (i : Nat), i ∉ dsts s → ET s vs T ρ i = ρ i
  | [], _, _, _, _, _ => rfl
  | _ :: _, [], _, _, _, _ => rfl
  | o :: r, v :: vs, T, ρ, i, hi => by
    rw [ET, ET_keep r vs _ _ i fun hm => hi (by simp only [dsts, List.flatMap_cons, List.mem_append]; exact .inr hm)]
    cases T 0 with
    | false => rfl
    | true =>
      refine VEnv.put_keep fun x hx e => hi ?_
      simp only [dsts, List.flatMap_cons, List.mem_append]
      exact .inl (by rw [hx, e]; simp)
theorem drop_get {s r : List Oper} {m p : Nat} {o : Oper} (h : s ++ r = ops.toList.drop m) (hp : s[p]? = some o) : ops[m + p]? = some o := by
  have h1 : (ops.toList.drop m)[p]? = some o := by
    rw [← h, List.getElem?_append_left]
    · exact hp
    · exact (List.getElem?_eq_some_iff.1 hp).1
  rw [List.getElem?_drop] at h1
  simpa using h1
theorem dsts_sub {s : List Oper} {all : List Oper} (h : ∀ o ∈ s, o ∈ all) {i : Nat} (hi : i ∉ dsts all) : i ∉ dsts s := by
  intro hm
  obtain ⟨o, ho, hd⟩ := List.mem_flatMap.1 hm
  exact hi (List.mem_flatMap.2 ⟨o, h o ho, hd⟩)
theorem mem_of_drop {s r : List Oper} {m : Nat} (h : s ++ r = ops.toList.drop m) : ∀ o ∈ s, o ∈ ops.toList := fun o ho =>
  List.mem_of_mem_drop (by rw [← h]; exact List.mem_append_left _ ho)
theorem chL_mem {M : Nat} : ∀ {s : List Oper} {k p : Nat} {o : Oper}, (p, o) ∈ chL M s k ↔ ∃ q, p = k + q ∧ s[q]? = some o ∧ M.testBit p = true
  | [], k, p, o => by simp [chL]
  | x :: r, k, p, o => by
    have ih := chL_mem (M := M) (s := r) (k := k + 1) (p := p) (o := o)
    have step : (∃ q, p = k + q ∧ (x :: r)[q]? = some o ∧ M.testBit p = true) ↔ (p = k ∧ x = o ∧ M.testBit p = true) ∨ ∃ q, p = k + 1 + q ∧ r[q]? = some o ∧ M.testBit p = true := by
      constructor
      · rintro ⟨q, h1, h2, h3⟩
        cases q with
        | zero => exact .inl ⟨by omega, by simpa using h2, h3⟩
        | succ q => exact .inr ⟨q, by omega, by simpa using h2, h3⟩
      · rintro (⟨h1, h2, h3⟩ | ⟨q, h1, h2, h3⟩)
        · exact ⟨0, by omega, by simpa using h2, h3⟩
        · exact ⟨q + 1, by omega, by simpa using h2, h3⟩
    rw [step]
    unfold chL
    cases hM : M.testBit k with
    | true =>
      simp only [cond_true, List.mem_cons, Prod.mk.injEq, ih]
      constructor
      · rintro (⟨rfl, rfl⟩ | h)
        · exact .inl ⟨rfl, rfl, hM⟩
        · exact .inr h
      · rintro (⟨rfl, rfl, _⟩ | h)
        · exact .inl ⟨rfl, rfl⟩
        · exact .inr h
    | false =>
      simp only [cond_false, ih]
      constructor
      · exact fun h => .inr h
      · rintro (⟨rfl, rfl, h⟩ | h)
        · rw [hM] at h; cases h
        · exact h
theorem dropU_mem {p : Nat} : ∀ {U : List (Nat × Oper)} {x : Nat × Oper}, x ∈ dropU p U ↔ x ∈ U ∧ x.1 ≠ p
  | [], x => by simp [dropU]
  | y :: r, x => by
    unfold dropU
    cases h : Nat.beq y.1 p with
    | true =>
      have e := Nat.eq_of_beq_eq_true h
      simp only [cond_true, dropU_mem (U := r), List.mem_cons]
      constructor
      · exact fun ⟨a, b⟩ => ⟨.inr a, b⟩
      · rintro ⟨rfl | a, b⟩
        · exact absurd e b
        · exact ⟨a, b⟩
    | false =>
      have e := Nat.ne_of_beq_eq_false h
      simp only [cond_false, List.mem_cons, dropU_mem (U := r)]
      constructor
      · rintro (rfl | ⟨a, b⟩)
        · exact ⟨.inl rfl, e⟩
        · exact ⟨.inr a, b⟩
      · rintro ⟨rfl | a, b⟩
        · exact .inl rfl
        · exact .inr ⟨a, b⟩
theorem dropU_len {p : Nat} : ∀ {U : List (Nat × Oper)}, (dropU p U).length ≤ U.length ∧ ((∃ x ∈ U, x.1 = p) → (dropU p U).length < U.length)
  | [] => by simp [dropU]
  | y :: r => by
    have ih := dropU_len (p := p) (U := r)
    unfold dropU
    cases h : Nat.beq y.1 p with
    | true => simp only [cond_true, List.length_cons]; exact ⟨by omega, fun _ => by omega⟩
    | false =>
      have e := Nat.ne_of_beq_eq_false h
      simp only [cond_false, List.length_cons]
      refine ⟨by omega, ?_⟩
      rintro ⟨x, hx, hp⟩
      rcases List.mem_cons.1 hx with rfl | hx
      · exact absurd hp e
      · have := ih.2 ⟨x, hx, hp⟩; omega
theorem frontB_iff {B : List Nat} {p : Nat} : ∀ {U : List (Nat × Oper)}, (∀ x ∈ U, x.1 ≠ p → dep B x.1 p = false) → frontB B p U = true
  | [], _ => rfl
  | y :: r, h => by
    have ih := frontB_iff (U := r) fun x hx => h x (List.mem_cons_of_mem _ hx)
    unfold frontB
    cases hb : Nat.beq y.1 p with
    | true => exact ih
    | false => rw [h y (by simp) (Nat.ne_of_beq_eq_false hb)]; exact ih
theorem fronts_mem {B : List Nat} {U : List (Nat × Oper)} {x : Nat × Oper} (hf : frontB B x.1 U = true) : ∀ {l : List (Nat × Oper)}, x ∈ l → x ∈ fronts B U l
  | [], h => by cases h
  | y :: r, h => by
    unfold fronts
    rcases List.mem_cons.1 h with rfl | h
    · rw [hf]; simp
    · cases frontB B y.1 U with
      | true => simp [fronts_mem hf h]
      | false => exact fronts_mem hf h

/-- A segment whose operations are all done. -/
theorem At1.over {Av : List Nat} {ρ0 : VEnv} {K : Env → WP} {L : Array Bool} {a : Act} {w : World} {m : Nat} {s : List Oper} {sg : List (List Oper)} {ρ : VEnv} {ρc : Env} {vs : List Value} {T : Nat → Bool} {I : WP} {M fu : Nat} {U : List (Nat × Oper)} {C : Env → WP}
    (h : At1 Av P n ops ρ0 K L a w m s sg ρ ρc vs T I M fu U C) (hT : ∀ q, q < s.length → T q = true) : ∃ ρ2, At0 Av P n ops ρ0 K L a w (m + s.length) sg ρ2 := by
  have hU : U = [] := by
    rcases U with _ | ⟨x, r⟩
    · rfl
    · obtain ⟨q, hq⟩ := h.inU x (by simp)
      obtain ⟨h1, _, h3⟩ := (h.ahead q x.2).1 (by rw [← hq]; simp)
      rw [hT q (List.getElem?_eq_some_iff.1 h1).1] at h3; cases h3
  have hc : C ρc w := by
    have := h.walk
    rw [hU] at this
    cases fu <;> exact this
  have henv : ρc.val = ET s vs T ρ := by
    rw [h.env]
    exact ET_mask s vs _ _ ρ fun q hq => by simp [hT q hq]
  have hk : ∀ i, i ∉ dsts s → ρc.val i = ρ i := fun i hi => by rw [henv]; exact ET_keep s vs T ρ i hi
  obtain ⟨ρ2, hv, hg, hw⟩ := h.fin ρc w h.good hk hc
  refine ⟨ρ2, fun i => ?_, ?_, h.ne, h.bar, h.le, ?_, hg, fun i hi => ?_, hw⟩
  · rw [h.done]
    constructor
    · rintro (h1 | ⟨_, h2, _⟩) <;> omega
    · intro hi
      by_cases h1 : i < m
      · exact .inl h1
      · exact .inr ⟨by omega, hi, hT _ (by omega)⟩
  · have := h.flat
    rw [← List.drop_drop, ← this, List.drop_left]
  · rw [hv, henv]; exact h.agree
  · rw [hv, hk i (dsts_sub (mem_of_drop h.flat) hi)]; exact h.keep i hi

theorem countP_flip {p p' : Nat → Bool} {i : Nat} (h1 : p i = true) (h2 : p' i = false) (h : ∀ j, j ≠ i → p' j = p j) : ∀ (l : List Nat), l.Nodup → i ∈ l → l.countP p' + 1 = l.countP p
  | [], _, hi => by simp at hi
  | x :: r, hnd, hi => by
    rw [List.countP_cons, List.countP_cons]
    have hnd' := List.nodup_cons.1 hnd
    by_cases e : x = i
    · subst e
      rw [h1, h2]
      have : r.countP p' = r.countP p := List.countP_congr fun y hy => by rw [h y fun e => hnd'.1 (e ▸ hy)]
      simp [this]
    · rw [h x e]
      have := countP_flip h1 h2 h r hnd'.2 (by simpa [show ¬ i = x from fun h => e h.symm] using hi)
      omega
def left (ops : Array Oper) (L : Array Bool) : Nat := (List.range ops.size).countP fun i => !lst L i
theorem left_set {L : Array Bool} (hs : L.size = ops.size) {i : Nat} (hi : i < ops.size) (h : lst L i = false) : left ops (L.setIfInBounds i true) + 1 = left ops L :=
  countP_flip (p := fun i => !lst L i) (p' := fun j => !lst (L.setIfInBounds i true) j) (i := i) (by simp [h]) (by rw [lst_set (by omega)]; simp)
    (fun j hj => by rw [lst_set (by omega)]; simp [hj]) _ List.nodup_range (by simpa using hi)
theorem left_zero {L : Array Bool} (h : left ops L = 0) : ∀ i, i < ops.size → lst L i = true := fun i hi => by
  have := List.countP_eq_zero.1 h i (by simpa using hi)
  simpa using this
theorem exists_unl {L : Array Bool} (h : left ops L ≠ 0) : ∃ i, i < ops.size ∧ lst L i = false := by
  have : 0 < left ops L := Nat.pos_of_ne_zero h
  obtain ⟨i, hi, h⟩ := List.countP_pos_iff.1 this
  exact ⟨i, by simpa using hi, by simpa using h⟩
theorem ready_ne {L : Array Bool} (hd : drawOk ops.toList = true) (hs : L.size = ops.size) (h : left ops L ≠ 0) : Region.ready .any ops L ≠ [] := by
  obtain ⟨i, hi, hl⟩ := exists_unl h
  have key : ∀ k i, i ≤ k → i < ops.size → lst L i = false → ∃ j, j ∈ Region.ready .any ops L := by
    intro k
    induction k with
    | zero =>
      intro i hik hi hl
      have : i = 0 := by omega
      subst this
      refine ⟨0, List.mem_filter.2 ⟨by simpa using hi, ?_⟩⟩
      rw [Array.getElem?_eq_getElem hi]
      have hl' : L.getD 0 true = false := by
        unfold lst at hl
        rw [Array.getD_eq_getD_getElem?] at hl ⊢
        rw [Array.getElem?_eq_getElem (by omega)] at hl ⊢
        simpa using hl
      simp only [hl', Option.map_some, Option.getD_some, Array.all_eq_true_iff_forall_mem, Bool.not_false, Bool.true_and, Bool.or_eq_true, Bool.not_eq_true']
      intro e he
      cases hb : Region.binds .any e with
      | false => exact .inl rfl
      | true =>
        have := draw_edge hd (j := 0) (o := ops[0]) (by rw [Array.getElem?_toList]; exact Array.getElem?_eq_getElem hi) (by simpa using he) hb
        omega
    | succ k ih =>
      intro i hik hi hl
      by_cases hr : i ∈ Region.ready .any ops L
      · exact ⟨i, hr⟩
      · have hl' : L.getD i true = false := by
          unfold lst at hl
          rw [Array.getD_eq_getD_getElem?] at hl ⊢
          rw [Array.getElem?_eq_getElem (by omega)] at hl ⊢
          simpa using hl
        have : ¬ ∀ e ∈ ops[i].after, Region.binds .any e = true → lst L e.on = true := by
          intro hall
          refine hr (List.mem_filter.2 ⟨by simpa using hi, ?_⟩)
          rw [Array.getElem?_eq_getElem hi]
          simp only [hl', Option.map_some, Option.getD_some, Array.all_eq_true_iff_forall_mem, Bool.not_false, Bool.true_and, Bool.or_eq_true, Bool.not_eq_true']
          intro e he
          cases hb : Region.binds .any e with
          | false => exact .inl rfl
          | true => exact .inr (hall e he hb)
        simp only [Classical.not_forall] at this
        obtain ⟨e, he, hb, hn⟩ := this
        have hlt := draw_edge hd (j := i) (o := ops[i]) (by rw [Array.getElem?_toList]; exact Array.getElem?_eq_getElem hi) (by simpa using he) hb
        exact ih e.on (by omega) (by omega) (by simpa using hn)
  obtain ⟨j, hj⟩ := key i i (Nat.le_refl _) hi hl
  exact fun e => by rw [e] at hj; simp at hj
end
end Go.Jac

namespace Go.Jac
open Go

section
variable {P : Program} {n : Nat} {ro : Option Nat} {ops : Array Oper} {Q : Exit → Act → World → Prop}

def AnyState (Av : List Nat) (P : Program) (n : Nat) (ops : Array Oper) (ρ0 : VEnv) (K : Env → WP) (L : Array Bool) (a : Act) (w : World) : Prop :=
  (∃ m sg ρ, At0 Av P n ops ρ0 K L a w m sg ρ) ∨ (∃ m s sg ρ ρc vs T I M fu U C, At1 Av P n ops ρ0 K L a w m s sg ρ ρc vs T I M fu U C ∧ ∃ q, q < s.length ∧ T q = false)

theorem At0.enter {Av A : List Nat} {ρ0 : VEnv} {K : Env → WP} {L : Array Bool} {a : Act} {w : World} {m M : Nat} {s : List Oper} {sg : List (List Oper)} {ρ : Env}
    (h : At0 Av P n ops ρ0 K L a w m (s :: sg) ρ) (hw : WSeg P ops.toList (bef ops.toList []) A s m M ρ (fun ρ' => WDr P ops.toList (bef ops.toList []) Av sg (m + s.length) ρ' K) w) :
    ∃ ρc vs I U C, At1 Av P n ops ρ0 K L a w m s sg ρ.val ρc vs (fun _ => false) I M U.length U C := by
  unfold WSeg at hw
  cases hseg : segOk (bef ops.toList []) M m s.length with
  | false => rw [hseg] at hw; exact hw.elim
  | true =>
    rw [hseg] at hw
    simp only [cond_true] at hw
    have key : ∀ C : Env → WP, (∀ ρ' w', Gd ρ' → (∀ i, i ∉ dsts s → ρ'.val i = ρ.val i) → C ρ' w' → ∃ ρ'' : Env, ρ''.val = ρ'.val ∧ Gd ρ'' ∧ WDr P ops.toList (bef ops.toList []) Av sg (m + s.length) ρ'' K w') →
        (QtC fun I => WRd P ops.toList M I s m ρ fun ρ' => WCh P ops.toList (bef ops.toList []) M I s m (chL M s m).length (chL M s m) ρ' C) w →
        ∃ ρc vs I U C, At1 Av P n ops ρ0 K L a w m s sg ρ.val ρc vs (fun _ => false) I M U.length U C := by
      rintro C hfin ⟨I, hI, hq⟩
      obtain ⟨vs, ρe, hGe, hf, hc⟩ := wr_facts s m ρ _ h.good hq
      have hflat : s ++ sg.flatten = ops.toList.drop m := by rw [← h.flat]; rfl
      have hlen : m + s.length ≤ ops.size := by
        have h1 := congrArg List.length hflat
        simp only [List.length_append, List.length_drop, Array.length_toList] at h1
        have := h.le
        omega
      refine ⟨ρe, vs, I, chL M s m, C, fun i => ?_, hflat, fun x hx => h.ne x (by simp [hx]), fun k hk i j hi hj hjs => ?_, hlen, ?_, h.keep, hseg, QF_len s vs _ _ _ hf, QF_at s vs _ _ m hf, hGe, ?_, fun q o => ?_, fun x hx => ?_, Nat.le_refl _, .inl hI, hfin, hc⟩
      · rw [h.done]; simp
      · refine h.bar (k + 1) (by simp; omega) i j ?_ ?_ hjs
        · simp only [List.take_succ_cons, List.flatten_cons, List.length_append]; omega
        · simp only [List.take_succ_cons, List.flatten_cons, List.length_append]; omega
      · have : ET s vs (fun _ => false) ρ.val = ρ.val := by funext t; exact ET_none _ _ _ _ _ fun _ _ _ _ => rfl
        rw [this]; exact h.agree
      · rw [QF_env s vs _ _ m hf]
        exact ET_mask s vs _ _ _ fun q _ => by simp
      · rw [chL_mem]
        constructor
        · rintro ⟨q', h1, h2, h3⟩
          have : q' = q := by omega
          subst this
          exact ⟨h2, h3, rfl⟩
        · rintro ⟨h2, h3, _⟩; exact ⟨q, rfl, h2, h3⟩
      · obtain ⟨q, h1, _⟩ := (chL_mem (p := x.1) (o := x.2)).1 hx
        exact ⟨q, h1⟩
    cases hr : rowB (bef ops.toList []) (chL M s m) with
    | true =>
      rw [hr] at hw
      exact key _ (fun ρ' w' hg _ hc => ⟨ρ', rfl, hg, hc⟩) hw
    | false =>
      rw [hr] at hw
      simp only [cond_false] at hw
      refine key (fun ρ'' w' => ∀ j : Env, unp (liveL (dsts s) A) (vals ρ'' (liveL (dsts s) A)) (mix (dsts s) j ρ) (fun ρ' => WDr P ops.toList (bef ops.toList []) Av sg (m + s.length) ρ' K) w') (fun ρ' w' hg hk hc => unp_use hg h.good hk hc) ?_
      exact hw _ fun vs w' h => h

theorem At1.any {Av : List Nat} {ρ0 : VEnv} {K : Env → WP} {L : Array Bool} {a : Act} {w : World} {m : Nat} {s : List Oper} {sg : List (List Oper)} {ρ : VEnv} {ρc : Env} {vs : List Value} {T : Nat → Bool} {I : WP} {M fu : Nat} {U : List (Nat × Oper)} {C : Env → WP}
    (h : At1 Av P n ops ρ0 K L a w m s sg ρ ρc vs T I M fu U C) : AnyState Av P n ops ρ0 K L a w := by
  by_cases hT : ∃ q, q < s.length ∧ T q = false
  · exact .inr ⟨m, s, sg, ρ, ρc, vs, T, I, M, fu, U, C, h, hT⟩
  · obtain ⟨ρ2, h2⟩ := h.over fun q hq => by
      cases hq' : T q with
      | true => rfl
      | false => exact absurd ⟨q, hq, hq'⟩ hT
    exact .inl ⟨_, _, _, h2⟩
theorem get_set {vs : List Value} {p q : Nat} {v : Value} (h : q ≠ p) : (vs.set p v)[q]? = vs[q]? := by
  rw [List.getElem?_set_ne (fun e => h e.symm)]

/-- One operation of a segment. -/
theorem At1.step {Av : List Nat} (hn : n ≤ MK) (hall : allB (opOk n) ops.toList = true) (hd : drawOk ops.toList = true) {ρ0 : VEnv} {K : Env → WP} {L : Array Bool} {a : Act} {w : World} {m : Nat} {s : List Oper} {sg : List (List Oper)} {ρ : VEnv} {ρc : Env} {vs : List Value} {T : Nat → Bool} {I : WP} {M fu : Nat} {U : List (Nat × Oper)} {C : Env → WP}
    (h : At1 Av P n ops ρ0 K L a w m s sg ρ ρc vs T I M fu U C) (hT : ∃ q, q < s.length ∧ T q = false) (hs : L.size = ops.size) (hc : Closed ops L) {i : Nat} (hi : i ∈ Region.ready .any ops L) {l : List Nat}
    (hk : ∀ a' w', AnyState Av P n ops ρ0 K (L.setIfInBounds i true) a' w' → wpOpsIn (FR ro) 0 P ops Q l a' w') : wpOpsIn (FR ro) 0 P ops Q (i :: l) a w := by
  obtain ⟨hlt, hun, hr⟩ := ready_iff hi hs
  have hdone := dep_done hc hr
  have hm : m ≤ i := by
    rcases Nat.lt_or_ge i m with h1 | h1
    · have := (h.done i).2 (.inl h1); rw [hun] at this; cases this
    · exact h1
  have hik : i < m + s.length := by
    rcases Nat.lt_or_ge i (m + s.length) with h1 | h1
    · exact h1
    · obtain ⟨q, hq, hqT⟩ := hT
      have := hdone (m + q) (h.bar 0 (Nat.zero_le _) (m + q) i (by simp; omega) (by simp; omega) hlt)
      rcases (h.done (m + q)).1 this with h2 | ⟨_, _, h2⟩
      · omega
      · rw [show m + q - m = q from by omega, hqT] at h2; cases h2
  obtain ⟨p, rfl⟩ : ∃ p, i = m + p := ⟨i - m, by omega⟩
  have hp : p < s.length := by omega
  have hTp : T p = false := by
    cases hq : T p with
    | false => rfl
    | true =>
      have := (h.done (m + p)).2 (.inr ⟨by omega, by omega, by rw [show m + p - m = p from by omega]; exact hq⟩)
      rw [hun] at this; cases this
  obtain ⟨o, ho⟩ : ∃ o, s[p]? = some o := ⟨_, List.getElem?_eq_getElem hp⟩
  have hgo : ∀ q x, s[q]? = some x → ops.toList[m + q]? = some x := fun q x hx => by rw [Array.getElem?_toList]; exact drop_get h.flat hx
  have depT : ∀ q, q < s.length → dep (bef ops.toList []) (m + q) (m + p) = true → T q = true := by
    intro q hq hdq
    rcases (h.done (m + q)).1 (hdone _ hdq) with h2 | ⟨_, _, h2⟩
    · omega
    · rwa [show m + q - m = q from by omega] at h2
  have depF : ∀ q, q < s.length → dep (bef ops.toList []) (m + p) (m + q) = true → T q = false := by
    intro q hql h1
    cases hq : T q with
    | false => rfl
    | true =>
      have h2 : lst L (m + q) = true := (h.done (m + q)).2 (.inr ⟨by omega, by omega, by rw [show m + q - m = q from by omega]; exact hq⟩)
      have := hc _ h2 _ h1
      rw [hun] at this; cases this
  have pair : ∀ q q', q' < q → q < s.length → pairS (dep (bef ops.toList []) (m + q') (m + q)) (M.testBit (m + q')) (M.testBit (m + q)) = true := fun q q' h1 h2 => segOk_iff h.seg q q' h2 h1
  -- whoever writes what this one names
  have later : ∀ q x, s[q]? = some x → p < q → ∀ t, x.dst = some t → t ∈ namesOf ops.toList o → dep (bef ops.toList []) (m + p) (m + q) = true := by
    intro q x hx hpq t ht hm'
    rcases draw_pair hd (hgo p o ho) (hgo q x hx) (by omega) with h1 | ⟨_, h1⟩
    · exact h1
    · exact absurd hm' (h1 t ht)
  have earlier : ∀ q x, s[q]? = some x → q < p → ∀ t, x.dst = some t → t ∈ namesOf ops.toList o → dep (bef ops.toList []) (m + q) (m + p) = true := by
    intro q x hx hpq t ht hm'
    rcases draw_pair hd (hgo q x hx) (hgo p o ho) (by omega) with h1 | ⟨h1, _⟩
    · exact h1
    · exact absurd hm' (h1 t ht)
  have hlen : ∀ {q x}, s[q]? = some x → q < s.length := fun hx => (List.getElem?_eq_some_iff.1 hx).1
  have hom : o ∈ ops.toList := mem_of_drop h.flat o (List.mem_of_getElem? ho)
  have hok : opOk n o = true := allB_iff.1 hall o hom
  have hop : ops[m + p]? = some o := drop_get h.flat ho
  let T' : Nat → Bool := fun q => decide (q = p) || T q
  have hdone' : ∀ j, lst (L.setIfInBounds (m + p) true) j = true ↔ (j < m ∨ (m ≤ j ∧ j < m + s.length ∧ T' (j - m) = true)) := by
    intro j
    rw [lst_set (by omega)]
    simp only [Bool.or_eq_true, decide_eq_true_eq, h.done, T']
    constructor
    · rintro (rfl | h1 | ⟨h1, h2, h3⟩)
      · exact .inr ⟨by omega, by omega, .inl (by omega)⟩
      · exact .inl h1
      · exact .inr ⟨h1, h2, .inr h3⟩
    · rintro (h1 | ⟨h1, h2, h3 | h3⟩)
      · exact .inr (.inl h1)
      · exact .inl (by omega)
      · exact .inr (.inr ⟨h1, h2, h3⟩)
  -- the environment with one more
  have more : ∀ (v : Value) (vs' : List Value) (E E' : Nat → Bool), vs'.length = vs.length → vs'[p]? = some v → (∀ q, q ≠ p → vs'[q]? = vs[q]?) → E' p = true → (∀ q, q ≠ p → q < s.length → E' q = E q) → (∀ q x, s[q]? = some x → p < q → ∀ t, x.dst = some t → t ∈ namesOf ops.toList o → E q = false) →
      (ET s vs E ρ).put o.dst v = ET s vs' E' ρ := by
    intro v vs' E E' hl hv hvq hEp hEq hlat
    funext t
    by_cases ht : o.dst = some t
    · rw [ht]
      simp only [VEnv.put, VEnv.upd_same]
      refine (ET_at s vs' E' ρ p o v t ho hv ht hEp fun q x hx hxd hlt => ?_).symm
      rw [hEq q (by omega) (hlen hx)]
      exact hlat q x hx hlt t hxd (List.mem_append_left _ (by rw [ht]; simp))
    · rw [VEnv.put_keep fun x hx e => ht (by rw [hx, e])]
      refine ET_congr s vs vs' _ _ ρ ρ t hl.symm (fun q x hx hxd => ?_) rfl
      have e : q ≠ p := fun e => by subst e; rw [ho] at hx; cases hx; exact ht hxd
      exact ⟨(hEq q e (hlen hx)).symm, fun _ => (hvq q e).symm⟩
  have evs_of : ∀ (E : Nat → Bool), (∀ q x, s[q]? = some x → ∀ t, x.dst = some t → t ∈ namesOf ops.toList o → T q = E q) → (∀ t, t ∈ namesOf ops.toList o → ET s vs T ρ t = ET s vs E ρ t) ∧ ∀ x ∈ o.op.operands, a.eval x = evV (ET s vs E ρ) x := by
    intro E hE
    have same : ∀ t, t ∈ namesOf ops.toList o → ET s vs T ρ t = ET s vs E ρ t := fun t ht =>
      ET_congr s vs vs _ _ ρ ρ t rfl (fun q x hx hxd => ⟨hE q x hx t hxd ht, fun _ => rfl⟩) rfl
    refine ⟨same, fun x hx => ?_⟩
    rw [h.agree.ev_eq (opOk_reads hok x hx)]
    cases x with
    | tmp t =>
      refine same t (List.mem_append_right _ (List.mem_append_left _ ?_))
      exact List.mem_flatMap.2 ⟨.tmp t, by simpa using hx, by simp [rdOf]⟩
    | _ => rfl
  simp only [wpOpsIn, hop]
  cases hMp : M.testBit (m + p) with
  | false =>
    obtain ⟨v, hv, hst⟩ := h.facts p o ho hMp
    have hE : ∀ q x, s[q]? = some x → ∀ t, x.dst = some t → t ∈ namesOf ops.toList o → T q = (decide (q < p) && !M.testBit (m + q)) := by
      intro q x hx t hxd ht
      rcases Nat.lt_trichotomy q p with h1 | h1 | h1
      · have hdq := earlier q x hx h1 t hxd ht
        have := pair p q h1 hp
        rw [depT q (hlen hx) hdq]
        rw [hdq, hMp] at this
        cases hq : M.testBit (m + q) with
        | false => simp [h1]
        | true => rw [hq] at this; cases this
      · subst h1; rw [hTp]; simp
      · rw [depF q (hlen hx) (later q x hx h1 t hxd ht)]
        have : ¬ q < p := by omega
        simp [this]
    obtain ⟨same, hev⟩ := evs_of _ hE
    have next : ∀ a' w', a' = a.put o.dst v → w' = w → wpOpsIn (FR ro) 0 P ops Q l a' w' := by
      rintro a' w' rfl rfl
      refine hk _ _ (At1.any (m := m) (s := s) (sg := sg) (ρ := ρ) (ρc := ρc) (vs := vs) (T := T') (I := I) (M := M) (fu := fu) (U := U) (C := C) ⟨hdone', h.flat, h.ne, h.bar, h.le, ?_, h.keep, h.seg, h.vlen, h.facts, h.good, ?_, fun q x => ?_, h.inU, h.fuel, ?_, h.fin, h.walk⟩)
      · rw [← more v vs T T' rfl hv (fun _ _ => rfl) (by simp [T']) (fun q hq _ => by simp [T', hq]) fun q x hx h1 t hxd ht => depF q (hlen hx) (later q x hx h1 t hxd ht)]
        exact h.agree.put hn v (opOk_dst hok)
      · rw [h.env]
        refine ET_mask s vs _ _ ρ fun q _ => ?_
        by_cases e : q = p
        · subst e; simp [hMp]
        · simp [T', e]
      · rw [h.ahead q x]
        by_cases e : q = p
        · subst e; rw [hMp]; simp
        · simp [T', e]
      · rcases h.inv with hI | hall'
        · exact .inl hI
        · exact .inr fun q x hx h1 h2 => by simp [T', hall' q x hx h1 h2]
    have hinv : pureOp o = false → I w := fun hpu => by
      rcases h.inv with hI | hall'
      · exact hI
      · have := hall' p o ho hMp hpu
        rw [hTp] at this; cases this
    unfold QStep at hst
    cases hg : o.guard with
    | none =>
      rw [hg] at hst
      have hw : Region.wanted o (yielded ops a.tmps) = true := by simp [Region.wanted, hg]
      rw [if_pos hw]
      obtain ⟨ρ1, hv1, hG1, hq⟩ := hst
      exact opV_sound hG1 (fun x hx => by rw [ev_val, hv1]; exact hev x hx) (fun s' w' _ ⟨e, hw'⟩ => next _ w' (by rw [e]) hw') (hq w hinv)
    | some jb =>
      obtain ⟨j, b⟩ := jb
      rw [hg] at hst
      obtain ⟨g, hgd, hst⟩ := hst
      have hy := yielded_eq h.agree hall hgd
      rw [same g (by unfold namesOf; rw [hg]; simp only [hgd]; simp)] at hy
      have hwd : Region.wanted o (yielded ops a.tmps) = (yielded ops a.tmps j == some b) := by simp [Region.wanted, hg]
      rcases hst with ⟨hx, hst⟩ | ⟨hx, rfl⟩
      · have hw : Region.wanted o (yielded ops a.tmps) = true := by rw [hwd, hy, hx]; simp
        rw [if_pos hw]
        obtain ⟨ρ1, hv1, hG1, hq⟩ := hst
        exact opV_sound hG1 (fun x hx => by rw [ev_val, hv1]; exact hev x hx) (fun s' w' _ ⟨e, hw'⟩ => next _ w' (by rw [e]) hw') (hq w hinv)
      · have hw : ¬ Region.wanted o (yielded ops a.tmps) = true := by
          rw [hwd, hy]
          cases hv' : ET s vs (fun q => decide (q < p) && !M.testBit (m + q)) ρ g with
          | bool c => simp; intro e; subst e; exact hx hv'
          | _ => simp
        rw [if_neg hw]
        exact ⟨fun f _ => FR_fn ro f, next _ w rfl rfl⟩
  | true =>
    have hmem : (m + p, o) ∈ U := (h.ahead p o).2 ⟨ho, hMp, hTp⟩
    have hfr : frontB (bef ops.toList []) (m + p) U = true := by
      refine frontB_iff fun x hx hne => ?_
      obtain ⟨q, hq⟩ := h.inU x hx
      obtain ⟨h1, _, h3⟩ := (h.ahead q x.2).1 (by rw [← hq]; exact hx)
      rw [hq]
      cases hdq : dep (bef ops.toList []) (m + q) (m + p) with
      | false => rfl
      | true => rw [depT q (hlen h1) hdq] at h3; cases h3
    obtain ⟨fu', rfl⟩ : ∃ f, fu = f + 1 := by
      have h1 : 0 < U.length := List.length_pos_of_mem hmem
      have h2 := h.fuel
      exact ⟨fu - 1, by omega⟩
    have hw : (WOps P ops.toList [o] ρc fun ρ' => condW (needI (bef ops.toList []) M (m + p) s m) (CH I (WCh P ops.toList (bef ops.toList []) M I s m fu' (dropU (m + p) U) ρ' C)) (WCh P ops.toList (bef ops.toList []) M I s m fu' (dropU (m + p) U) ρ' C)) w := by
      have hwk := h.walk
      cases U with
      | nil => cases hmem
      | cons u r => exact allW_mem hwk _ (List.mem_map.2 ⟨(m + p, o), fronts_mem hfr hmem, rfl⟩)
    have rdl : ∀ q x, s[q]? = some x → p < q → ∀ t, x.dst = some t → t ∈ namesOf ops.toList o → M.testBit (m + q) = true := by
      intro q x hx h1 t hxd ht
      have := pair q p h1 (hlen hx)
      rw [later q x hx h1 t hxd ht, hMp] at this
      cases hMq : M.testBit (m + q) with
      | true => rfl
      | false => rw [hMq] at this; cases this
    have henv := h.env
    have hE : ∀ q x, s[q]? = some x → ∀ t, x.dst = some t → t ∈ namesOf ops.toList o → T q = (!M.testBit (m + q) || T q) := by
      intro q x hx t hxd ht
      rcases Nat.lt_trichotomy q p with h1 | h1 | h1
      · rw [depT q (hlen hx) (earlier q x hx h1 t hxd ht)]; simp
      · subst h1; rw [hTp, hMp]; rfl
      · rw [rdl q x hx h1 t hxd ht]; rfl
    obtain ⟨same, hev⟩ := evs_of _ hE
    rw [← henv] at same hev
    have next : ∀ (ρ1 : Env) (sv : SV) (a' : Act) (w' : World), Gd ρ1 → ρ1.val = ρc.val → sv.Good → a' = a.put o.dst sv.v →
        (condW (needI (bef ops.toList []) M (m + p) s m) (CH I (WCh P ops.toList (bef ops.toList []) M I s m fu' (dropU (m + p) U) (ρ1.put o.dst sv) C))
          (WCh P ops.toList (bef ops.toList []) M I s m fu' (dropU (m + p) U) (ρ1.put o.dst sv) C)) w' → wpOpsIn (FR ro) 0 P ops Q l a' w' := by
      rintro ρ1 sv a' w' hG1 hv1 hsv rfl hw'
      have hinv : (I w' ∨ ∀ q x, s[q]? = some x → M.testBit (m + q) = false → pureOp x = false → T' q = true) ∧ WCh P ops.toList (bef ops.toList []) M I s m fu' (dropU (m + p) U) (ρ1.put o.dst sv) C w' := by
        cases hni : needI (bef ops.toList []) M (m + p) s m with
        | true => rw [hni] at hw'; exact ⟨.inl hw'.1, hw'.2⟩
        | false =>
          rw [hni] at hw'
          exact ⟨.inr fun q x hx h1 h2 => by simp [T', depT q (hlen hx) (needI_iff hni q x hx h2 h1)], hw'⟩
      have hvl : (vs.set p sv.v).length = vs.length := by simp
      have hvp : (vs.set p sv.v)[p]? = some sv.v := by rw [List.getElem?_set_self (by rw [h.vlen]; exact hp)]
      have hvq : ∀ q, q ≠ p → (vs.set p sv.v)[q]? = vs[q]? := fun q hq => get_set hq
      refine hk _ _ (At1.any (m := m) (s := s) (sg := sg) (ρ := ρ) (ρc := ρ1.put o.dst sv) (vs := vs.set p sv.v) (T := T') (I := I) (M := M) (fu := fu') (U := dropU (m + p) U) (C := C) ⟨hdone', h.flat, h.ne, h.bar, h.le, ?_, h.keep, h.seg, by rw [hvl]; exact h.vlen, fun q x hx hMq => ?_, hG1.put _ hsv, ?_, fun q x => ?_, fun x hx => h.inU x (dropU_mem.1 hx).1, ?_, hinv.1, h.fin, hinv.2⟩)
      · rw [← more sv.v _ T T' hvl hvp hvq (by simp [T']) (fun q hq _ => by simp [T', hq]) fun q x hx h1 t hxd ht => depF q (hlen hx) (later q x hx h1 t hxd ht)]
        exact h.agree.put hn sv.v (opOk_dst hok)
      · have hne : q ≠ p := fun e => by subst e; rw [hMp] at hMq; cases hMq
        obtain ⟨v, hv, hst⟩ := h.facts q x hx hMq
        refine ⟨v, (hvq q hne).trans hv, ?_⟩
        have e : ET s (vs.set p sv.v) (fun q' => decide (q' < q) && !M.testBit (m + q')) ρ = ET s vs (fun q' => decide (q' < q) && !M.testBit (m + q')) ρ := by
          funext t
          refine ET_congr s _ _ _ _ ρ ρ t hvl (fun q' x' _ _ => ⟨rfl, fun ht => ?_⟩) rfl
          refine hvq q' fun e => ?_
          subst e; rw [hMp] at ht; simp at ht
        rw [e]; exact hst
      · rw [Env.val_put, hv1, henv]
        refine more sv.v _ _ _ hvl hvp hvq (by simp [T']) (fun q hq hql => ?_) fun q x hx h1 t hxd ht => ?_
        · simp [T', hq]
        · rw [rdl q x hx h1 t hxd ht, depF q (hlen hx) (later q x hx h1 t hxd ht)]; rfl
      · rw [dropU_mem, h.ahead q x]
        by_cases e : q = p
        · subst e; simp [T']
        · simp [T', e]
      · have h1 := (dropU_len (p := m + p) (U := U)).2 ⟨_, hmem, rfl⟩
        have h2 := h.fuel
        omega
    unfold WOps at hw
    cases hg : o.guard with
    | none =>
      rw [hg] at hw
      have hwt : Region.wanted o (yielded ops a.tmps) = true := by simp [Region.wanted, hg]
      rw [if_pos hwt]
      exact opV_sound h.good (fun x hx => by rw [ev_val]; exact hev x hx) (fun sv w' hsv hv => next ρc sv _ w' h.good rfl hsv rfl hv) hw
    | some jb =>
      obtain ⟨j, b⟩ := jb
      rw [hg] at hw
      dsimp only at hw
      cases hgd : dstAt ops.toList j with
      | none => rw [hgd] at hw; exact hw.elim
      | some g =>
        rw [hgd] at hw
        dsimp only at hw
        have hy := yielded_eq h.agree hall hgd
        rw [same g (by unfold namesOf; rw [hg]; simp only [hgd]; simp)] at hy
        have hwd : Region.wanted o (yielded ops a.tmps) = (yielded ops a.tmps j == some b) := by simp [Region.wanted, hg]
        rcases GrdW_cases (h.good g) hw with ⟨hx, hw⟩ | ⟨hx, hw⟩ | ⟨hx, hw⟩
        · have hv1 : (ρc.upd g (sb b)).val = ρc.val := Env.val_know (by rw [sb_v]; exact hx)
          have hwt : Region.wanted o (yielded ops a.tmps) = true := by rw [hwd, hy, show ρc.val g = _ from hx]; simp
          rw [if_pos hwt]
          exact opV_sound (h.good.upd g (good_sb b)) (fun x hx => by rw [ev_val, hv1]; exact hev x hx) (fun sv w' hsv hv => next _ sv _ w' (h.good.upd g (good_sb b)) hv1 hsv rfl hv) hw
        · have hv1 : (ρc.upd g (sb (!b))).val = ρc.val := Env.val_know (by rw [sb_v]; exact hx)
          have hwt : ¬ Region.wanted o (yielded ops a.tmps) = true := by rw [hwd, hy, show ρc.val g = _ from hx]; cases b <;> simp
          rw [if_neg hwt]
          exact ⟨fun f _ => FR_fn ro f, next _ su _ w (h.good.upd g (good_sb _)) hv1 good_su rfl hw⟩
        · have hwt : ¬ Region.wanted o (yielded ops a.tmps) = true := by
            rw [hwd, hy]
            cases hv : ρc.val g with
            | bool c => exact absurd hv (hx c)
            | _ => simp
          rw [if_neg hwt]
          exact ⟨fun f _ => FR_fn ro f, next ρc su _ w h.good rfl good_su rfl hw⟩

theorem draw_run {Av : List Nat} (hn : n ≤ MK) (hall : allB (opOk n) ops.toList = true) (hd : drawOk ops.toList = true) {ρ0 : VEnv} {K : Env → WP}
    (hK : ∀ a' ρ' w', Agree n a' ρ'.val → Gd ρ' → (∀ i, i ∉ dsts ops.toList → ρ'.val i = ρ0 i) → K ρ' w' → Q .normal a' w') :
    ∀ (fuel t : Nat) (L : Array Bool) (a : Act) (w : World), L.size = ops.size → Closed ops L → left ops L = fuel → AnyState Av P n ops ρ0 K L a w → wpOpsIn (FR ro) 0 P ops Q (Region.linearise.go .any ops fuel t L []) a w := by
  intro fuel
  induction fuel with
  | zero =>
    intro t L a w hs hc hl h
    have hz := left_zero hl
    have fin : ∀ m sg ρ, At0 Av P n ops ρ0 K L a w m sg ρ → wpOpsIn (FR ro) 0 P ops Q (Region.linearise.go .any ops 0 t L []) a w := by
      intro m sg ρ h
      have hm : ops.size ≤ m := by
        rcases Nat.lt_or_ge m ops.size with h1 | h1
        · have := (h.done m).1 (hz m h1); omega
        · exact h1
      cases sg with
      | nil => exact hK a ρ w h.agree h.good h.keep h.walk
      | cons s r =>
        have h1 := congrArg List.length h.flat
        simp only [List.flatten_cons, List.length_append, List.length_drop, Array.length_toList] at h1
        have h2 := h.ne s (by simp)
        have : s.length ≠ 0 := fun e => h2 (List.length_eq_zero_iff.1 e)
        omega
    rcases h with ⟨m, sg, ρ, h⟩ | ⟨m, s, sg, ρ, ρc, vs, T, I, M, fu, U, C, h, q, hq, hqT⟩
    · exact fin m sg ρ h
    · have := (h.done (m + q)).1 (hz (m + q) (by have := h.le; omega))
      rcases this with h1 | ⟨_, _, h1⟩
      · omega
      · rw [show m + q - m = q from by omega, hqT] at h1; cases h1
  | succ fuel ih =>
    intro t L a w hs hc hl h
    have hne := ready_ne hd hs (by omega : left ops L ≠ 0)
    simp only [Region.linearise.go]
    change wpOpsIn (FR ro) 0 P ops Q (match (Region.ready .any ops L)[t % (Region.ready .any ops L).length]? with
      | some i => Region.linearise.go .any ops fuel (t / (Region.ready .any ops L).length) (L.setIfInBounds i true) [i]
      | none => [].reverse) a w
    have hlt : t % (Region.ready .any ops L).length < (Region.ready .any ops L).length := Nat.mod_lt _ (List.length_pos_iff.2 hne)
    rw [List.getElem?_eq_getElem hlt]
    dsimp only
    generalize hi : (Region.ready .any ops L)[t % (Region.ready .any ops L).length] = i
    have him : i ∈ Region.ready .any ops L := hi ▸ List.getElem_mem hlt
    obtain ⟨hlt', hun, hr⟩ := ready_iff him hs
    rw [linearise_go_acc]
    simp only [List.reverse_singleton, List.singleton_append]
    have cont : ∀ a' w', AnyState Av P n ops ρ0 K (L.setIfInBounds i true) a' w' → wpOpsIn (FR ro) 0 P ops Q (Region.linearise.go .any ops fuel (t / (Region.ready .any ops L).length) (L.setIfInBounds i true) []) a' w' := fun a' w' h' =>
      ih _ _ a' w' (by simp [hs]) (hc.set hs him) (by have := left_set hs hlt' hun; omega) h'
    rcases h with ⟨m, sg, ρ, h⟩ | ⟨m, s, sg, ρ, ρc, vs, T, I, M, fu, U, C, h, hT⟩
    · have hmi : m ≤ i := by
        rcases Nat.lt_or_ge i m with h1 | h1
        · have := (h.done i).2 h1; rw [hun] at this; cases this
        · exact h1
      match sg, h with
      | [], h =>
        have h1 := congrArg List.length h.flat
        simp only [List.flatten_nil, List.length_nil, List.length_drop, Array.length_toList] at h1
        omega
      | [] :: r, h => exact absurd rfl (h.ne [] (by simp))
      | [o] :: r, h =>
        have him' : i = m := by
          rcases Nat.lt_or_ge m i with h1 | h1
          · have hdp := h.bar 1 (by simp) m i (by simp) (by simp; omega) hlt'
            have := (h.done m).1 (dep_done hc hr m hdp)
            omega
          · omega
        subst him'
        have hflat : [o] ++ r.flatten = ops.toList.drop i := by rw [← h.flat]; rfl
        have ho : ops[i]? = some o := by
          have := drop_get (p := 0) (o := o) hflat rfl
          simpa using this
        have hw : WOps P ops.toList [o] ρ (fun ρ' => WDr P ops.toList (bef ops.toList []) Av r (i + 1) ρ' K) w := h.walk
        refine wops_sound hn hall [i] [o] (fun x hx => mem_of_drop hflat x hx) (by simp [ho]) a ρ w _ h.agree h.good hw _ fun a' ρ' w' hA hG hk hw' => cont a' w' (.inl ⟨i + 1, r, ρ', fun j => ?_, ?_, fun x hx => h.ne x (by simp [hx]), fun k hk' x y hx hy hys => ?_, by omega, hA, hG, fun x hx => ?_, hw'⟩)
        · rw [lst_set (by omega)]
          simp only [Bool.or_eq_true, decide_eq_true_eq, h.done]
          omega
        · rw [← List.drop_drop, ← hflat]; rfl
        · refine h.bar (k + 1) (by simp; omega) x y ?_ ?_ hys <;> simp only [List.take_succ_cons, List.flatten_cons, List.length_append, List.length_cons, List.length_nil] <;> omega
        · rw [hk x (dsts_sub (mem_of_drop hflat) hx)]; exact h.keep x hx
      | (o1 :: o2 :: s) :: r, h =>
        obtain ⟨ρc, vs, I, U, C, h1⟩ := h.enter h.walk
        exact h1.step hn hall hd ⟨0, by simp, rfl⟩ hs hc him cont
    · exact h.step hn hall hd hT hs hc him cont

/-! ### The segments that the text shows -/
theorem segs_flat (B : List Nat) : ∀ (l : List Oper) (m : Nat) (cur : List Oper), (segs B l m cur).flatten = cur ++ l
  | [], _, [] => rfl
  | [], _, x :: r => by simp [segs]
  | o :: l, m, cur => by
    rw [segs]
    cases barrier B (m + 1) l.length with
    | true => simp [segs_flat B l (m + 1) []]
    | false => simp [segs_flat B l (m + 1) (cur ++ [o])]
theorem segs_ne (B : List Nat) : ∀ (l : List Oper) (m : Nat) (cur : List Oper), ∀ s ∈ segs B l m cur, s ≠ []
  | [], _, [], s, h => by simp [segs] at h
  | [], _, x :: r, s, h => by simp [segs] at h; simp [h]
  | o :: l, m, cur, s, h => by
    rw [segs] at h
    cases hb : barrier B (m + 1) l.length with
    | true =>
      rw [hb] at h
      simp only [cond_true, List.mem_cons] at h
      rcases h with rfl | h
      · simp
      · exact segs_ne B l (m + 1) [] s h
    | false => rw [hb] at h; exact segs_ne B l (m + 1) _ s h
theorem segs_bar (B : List Nat) (N : Nat) : ∀ (l : List Oper) (m : Nat) (cur : List Oper), m + l.length = N → (cur = [] → ∀ i j, i < m → m ≤ j → j < N → dep B i j = true) →
    ∀ k, k ≤ (segs B l m cur).length → (k = 0 → cur = []) → ∀ i j, i < m - cur.length + (((segs B l m cur).take k).flatten).length → m - cur.length + (((segs B l m cur).take k).flatten).length ≤ j → cur.length ≤ m → j < N → dep B i j = true
  | [], m, [], hN, hb, k, hk, _, i, j, hi, hj, _, hjN => by simp [segs] at hi hj; simp at hN; omega
  | [], m, x :: r, hN, hb, k, hk, h0, i, j, hi, hj, hc, hjN => by
    cases k with
    | zero => exact absurd (h0 rfl) (by simp)
    | succ k =>
      have : ((segs B [] m (x :: r)).take (k + 1)).flatten = x :: r := by simp [segs]
      rw [this] at hj
      simp at hN
      omega
  | o :: l, m, cur, hN, hb, k, hk, h0, i, j, hi, hj, hc, hjN => by
    simp only [List.length_cons] at hN
    rw [segs] at hi hj hk
    cases hbr : barrier B (m + 1) l.length with
    | true =>
      rw [hbr] at hi hj hk
      simp only [cond_true] at hi hj hk
      cases k with
      | zero =>
        have := h0 rfl
        subst this
        simp at hi hj
        exact hb rfl i j hi hj hjN
      | succ k =>
        simp only [List.take_succ_cons, List.flatten_cons, List.length_append, List.length_cons, List.length_nil] at hi hj
        refine segs_bar B N l (m + 1) [] (by omega) (fun _ i j hi hj hjN => barrier_iff hbr hi hj (by omega)) k (by simpa using hk) (fun _ => rfl) i j ?_ ?_ (by simp) hjN
        · simp only [List.length_nil]; omega
        · simp only [List.length_nil]; omega
    | false =>
      rw [hbr] at hi hj hk
      simp only [cond_false] at hi hj hk
      cases k with
      | zero =>
        have := h0 rfl
        subst this
        simp at hi hj
        exact hb rfl i j hi hj hjN
      | succ k =>
        refine segs_bar B N l (m + 1) (cur ++ [o]) (by omega) (by simp) (k + 1) hk (by simp) i j ?_ ?_ (by simp; omega) hjN
        · simp only [List.length_append, List.length_cons, List.length_nil]; omega
        · simp only [List.length_append, List.length_cons, List.length_nil]; omega

/-- A drawn region, out of the walk in the text's order. -/
theorem draw_sound {Av : List Nat} (hn : n ≤ MK) (hm : P.follows .mixedOrders = true) (hall : allB (opOk n) ops.toList = true) (hd : drawOk ops.toList = true) {ρ : Env} {K : Env → WP} {a : Act} {w : World} {id : Nat} (hA : Agree n a ρ.val) (hG : Gd ρ)
    (hK : ∀ a' ρ' w', Agree n a' ρ'.val → Gd ρ' → (∀ i, i ∉ dsts ops.toList → ρ'.val i = ρ.val i) → K ρ' w' → Q .normal a' w')
    (h : WDr P ops.toList (bef ops.toList []) Av (segs (bef ops.toList []) ops.toList 0 []) 0 ρ K { w with drawn := w.drawn + 1 }) : (Code.region id ops true).wpIn (FR ro) 0 P Q a w := by
  refine wpIn_region_draw fun t => ?_
  simp only [Region.schedule, hm, Bool.true_or, if_true]
  have hz : ∀ i, lst (Array.replicate ops.size false) i = false := fun i => by
    unfold lst
    rw [Array.getD_eq_getD_getElem?, Array.getElem?_replicate]
    split <;> rfl
  have hleft : left ops (Array.replicate ops.size false) = ops.size := by
    unfold left
    rw [List.countP_eq_length.2 fun i _ => by rw [hz]; rfl]
    simp
  exact draw_run hn hall hd hK ops.size t _ a _ (by simp) (fun j hj => by rw [hz] at hj; cases hj) hleft
    (.inl ⟨0, _, ρ, fun i => by rw [hz]; simp, by rw [segs_flat]; simp, segs_ne _ _ _ _,
      fun k hk i j hi hj hjs => segs_bar _ ops.size ops.toList 0 [] (by simp) (fun _ i j hi => by omega) k hk (fun _ => rfl) i j (by simpa using hi) (by simpa using hj) (by simp) hjs, by omega, hA, hG, fun _ _ => rfl, h⟩)
end
end Go.Jac

namespace Go.Jac
open Go

/-! ### What is written, what is read ahead of being written -/
def mods : Code → List Nat
  | .region _ ops _ => dsts ops.toList
  | .seq a b => mods a ++ mods b
  | .cond _ a b => mods a ++ mods b
  | .block _ c => mods c
  | .loop c => mods c
  | .scope c => mods c
  | .rangeFunc .. => [MK]
  | _ => []
def must : Code → List Nat
  | .region _ ops _ => dsts ops.toList
  | .seq a b => must a ++ must b
  | _ => []
def ue : Code → List Nat
  | .region _ ops _ => ueOps ops.toList ops.toList []
  | .seq a b => ue a ++ notIn (must a) (ue b)
  | .cond c a b => rdOf c ++ (ue a ++ ue b)
  | .block _ c => ue c
  | .loop c => ue c
  | .scope c => ue c
  | .rangeFunc f _ a b => rdOf f ++ (ue a ++ notIn (must a) (ue b))
  | _ => []
def nex (id : Nat) : Code → Nat
  | .exit i => cond (Nat.beq i id) 1 0
  | .seq a b => nex id a + nex id b
  | .cond _ a b => nex id a + nex id b
  | .block _ c => nex id c
  | .loop c => nex id c
  | _ => 0
def leaves : Code → Nat
  | .region .. => 1
  | .skip => 1
  | .label _ => 1
  | .seq a b => leaves a * leaves b
  | .cond _ a b => leaves a + leaves b
  | .block id c => leaves c + nex id c
  | .rangeFunc .. => 1
  | _ => 0
def csize : Code → Nat
  | .region _ ops _ => ops.toList.length
  | .seq a b => csize a + csize b
  | .cond _ a b => csize a + csize b
  | .block _ c => csize c
  | .loop c => csize c + 100
  | .rangeFunc _ _ _ _ => 100
  | _ => 0
def joinN (a b : Code) : Bool := cond (Nat.blt 1 (leaves a)) (Nat.blt 16 (csize b)) false

/-! ### Loops and places where ways meet -/
def thenX (N : Env → WP) (Q : Exit → Env → WP) (e : Exit) (ρ : Env) : WP := let _t := Tall; match e with
  | .normal => N ρ
  | e => Q e ρ
def blockX (id : Nat) (Q : Exit → Env → WP) (e : Exit) (ρ : Env) : WP := let _t := Tall; match e with
  | .exit i => condW (Nat.beq i id) (Q .normal ρ) (Q (.exit i) ρ)
  | e => Q e ρ

/-! ### A range over a function -/
def isLp (w : World) (l : Nat) (r : Loop) : Prop := w.heap[l]? = some (.loop r)
def World.put' (w : World) (l : Nat) (o : Obj) : World := { w with heap := w.heap.setIfInBounds l o }
/-- A round begins: the record is ready, and is busy from here on. -/
def RBeg (l : Nat) (K : WP) : WP := fun w => ∃ r, isLp w l r ∧ r.state = .ready ∧ K (World.put' w l (.loop { r with state := .busy }))
/-- A round ends, by a jump or by none. -/
def REnd (l : Nat) (jump : Option Code) (K : Value → WP) : WP := fun w =>
  ∃ r, isLp w l r ∧ K (.bool jump.isNone) (World.put' w l (.loop { r with state := if jump.isNone then .ready else .done, pending := jump }))
/-- What a round of the loop does, for whoever calls its yield. -/
def RoundOf (P : Program) (r0 : Loop) (rd : Nat → List Value → (Value → WP) → WP) : Prop :=
  ∀ (l : Nat) (r : Loop) (args : List Value) (K : Value → WP) (w : World), isLp w l r → r.fn = r0.fn → r.tmps = r0.tmps → r.params = r0.params → r.assign = r0.assign → r.body = r0.body →
    rd l args K w → ∀ A : Array Value, A = args.toArray → FnV P (.func (.yield l) #[] #[]) A K w
def sameLp (r r0 : Loop) : Prop := r.fn = r0.fn ∧ r.tmps = r0.tmps ∧ r.params = r0.params ∧ r.assign = r0.assign ∧ r.body = r0.body ∧ r.defers = r0.defers
/-- The statement: f is called with a yield; behind it the pending jump is made. -/
def RF0 (P : Program) (f : Value) (rd : Nat → List Value → (Value → WP) → WP) (K : Value → Option Code → WP) : WP := fun w =>
  ∃ k caps, f = .func (.func k) #[] caps ∧ (∀ args w, (callFunc k args).run P w = .ok (.enter k args) w) ∧
    ∀ r0 : Loop, r0.state = .ready → r0.pending = none → r0.defers = w.heap.size → RoundOf P r0 rd →
      Cl P k (#[.func (.yield (w.heap.size + 1)) #[] #[]] ++ caps) (fun _ w3 => ∃ r, isLp w3 (w.heap.size + 1) r ∧ sameLp r r0 ∧ r.state ≠ .busy ∧ K (.pointer (some ⟨w.heap.size, 0, none⟩)) r.pending (World.put' w3 (w.heap.size + 1) (.loop { r with state := .exhausted })))
        { w with heap := (w.heap.push (.deferred (some []))).push (.loop r0) }
def RF1 (P : Program) (l0 : Nat) (f : Value) (rd : Nat → List Value → (Value → WP) → WP) (K : Option Code → WP) : WP := fun w =>
  ∃ k caps rr, f = .func (.func k) #[] caps ∧ (∀ args w, (callFunc k args).run P w = .ok (.enter k args) w) ∧ isLp w l0 rr ∧
    ∀ r0 : Loop, r0.state = .ready → r0.pending = none → r0.defers = rr.defers → RoundOf P r0 rd →
      Cl P k (#[.func (.yield w.heap.size) #[] #[]] ++ caps) (fun _ w3 => ∃ r, isLp w3 w.heap.size r ∧ sameLp r r0 ∧ r.state ≠ .busy ∧ K r.pending (World.put' w3 w.heap.size (.loop { r with state := .exhausted })))
        { w with heap := w.heap.push (.loop r0) }
def exitsOf : Code → List Nat
  | .exit i => [i]
  | .seq a b => exitsOf a ++ exitsOf b
  | .cond _ a b => exitsOf a ++ exitsOf b
  | .block _ c => exitsOf c
  | .loop c => exitsOf c
  | .scope c => exitsOf c
  | .rangeFunc _ _ a b => exitsOf a ++ exitsOf b
  | _ => []
def exSel : List Nat → (Nat → WP) → Nat → WP
  | [], _, _ => fun _ => False
  | x :: r, Q, i => condW (Nat.beq i x) (Q x) (exSel r Q i)
def JumpC (j : Option Code) (N R : WP) (X : Nat → WP) : WP := fun w => match j with
  | none => N w
  | some .ret => R w
  | some (.exit i) => X i w
  | _ => False
def Env.puts (ρ : Env) : List Nat → List Value → Env
  | i :: r, v :: vs => (ρ.upd i (dy v)).puts r vs
  | _, _ => ρ
def addMark (m v : Value) : Value := match m with
  | .tuple vs => .tuple (v :: vs.toList).toArray
  | _ => .tuple #[v]

/-- The operations of the code, in its order, told over an environment. -/
def W (P : Program) (n : Nat) : Code → Option Nat → List Nat → Env → (Exit → Env → WP) → WP
  | .skip, _, _, ρ, Q => Q .normal ρ
  | .label _, _, _, ρ, Q => Q .normal ρ
  | .ret, _, _, ρ, Q => Q .ret ρ
  | .exit i, _, _, ρ, Q => Q (.exit i) ρ
  | .region _ ops false, _, _, ρ, Q => WOps P ops.toList ops.toList ρ (Q .normal)
  | .region _ ops true, _, A, ρ, Q => condW (drawOk ops.toList) (fun w => WDr P ops.toList (bef ops.toList []) A (segs (bef ops.toList []) ops.toList 0 []) 0 ρ (Q .normal) { w with drawn := w.drawn + 1 }) (fun _ => False)
  | .seq a b, ro, A, ρ, Q => condW (joinN a b)
      (JoinC (fun vs w => ∀ j : Env, unp (liveL (mods a) (ue b ++ A)) vs (mix (mods a) j ρ) (fun ρ' => W P n b ro A ρ' Q) w)
        (fun K => W P n a ro (ue b ++ A) ρ (thenX (fun ρ' => K (vals ρ' (liveL (mods a) (ue b ++ A)))) Q)))
      (W P n a ro (ue b ++ A) ρ (thenX (fun ρ' => W P n b ro A ρ' Q) Q))
  | .cond c a b, ro, A, ρ, Q => CndW (evS ρ c) (W P n a ro A ρ Q) (W P n b ro A ρ Q)
  | .block id c, ro, A, ρ, Q => W P n c ro A ρ (blockX id Q)
  | .scope c, ro, A, ρ, Q => W P n c ro A ρ Q
  | .loop c, ro, A, ρ, Q =>
      LoopC (vals ρ (liveL (mods c) (ue c ++ A))) fun K vs w => ∀ j : Env, unp (liveL (mods c) (ue c ++ A)) vs (mix (mods c) j ρ) (fun ρ' => W P n c ro (ue c ++ A) ρ' (thenX (fun ρ'' => K (vals ρ'' (liveL (mods c) (ue c ++ A)))) Q)) w
  | .rangeFunc f ps a b, none, _, ρ, Q =>
      RF0 P (ev ρ f) (fun l args K => unpX ps.toList args (ρ.upd MK (dy (.tuple #[]))) fun ρ0 => W P n a (some l) (ue b) ρ0 (thenX (fun ρ1 => RBeg l (W P n b (some l) [] ρ1 fun e _ => match e with
          | .normal => REnd l none K
          | .ret => REnd l (some .ret) K
          | .exit i => REnd l (some (.exit i)) K
          | _ => fun _ => False)) (fun _ _ _ => False)))
        fun m j => JumpC j (Q .normal (ρ.upd MK (dy (addMark (ρ MK).v m)))) (Q .ret (ρ.upd MK (dy (addMark (ρ MK).v m)))) (exSel (exitsOf b) fun i => Q (.exit i) (ρ.upd MK (dy (addMark (ρ MK).v m))))
  | .rangeFunc f ps a b, some l0, _, ρ, Q =>
      RF1 P l0 (ev ρ f) (fun l args K => unpX ps.toList args (ρ.upd MK (dy (.tuple #[]))) fun ρ0 => W P n a (some l) (ue b) ρ0 (thenX (fun ρ1 => RBeg l (W P n b (some l) [] ρ1 fun e _ => match e with
          | .normal => REnd l none K
          | .ret => REnd l (some .ret) K
          | .exit i => REnd l (some (.exit i)) K
          | _ => fun _ => False)) (fun _ _ _ => False)))
        fun j => JumpC j (Q .normal ρ) (Q .ret ρ) (exSel (exitsOf b) fun i => Q (.exit i) ρ)
  | _, _, _, _, _ => fun _ => False
end Go.Jac

namespace Go
section
variable {F : Fence} {n : Nat} {P : Program} {b : Frame} {a : Act} {k : List Item} {cs : List Frame} {w : World} {Q : Exit → Act → World → Prop}
theorem stepR_scope {c : Code} : step P (lone (b.atR a (.code (.scope c) :: k)) cs w) = .next (lone (b.atR a (.code c :: .inScope c :: k)) cs w) :=
  step_lone_go (by simp [stepG, stepG.exec, Frame.atR])
theorem stepR_inScope {c : Code} : step P (lone (b.atR a (.inScope c :: k)) cs w) = .next (lone (b.atR a k) cs w) :=
  step_lone_go (by simp [stepG, stepG.exec, Frame.atR])
theorem wpIn_scope {c : Code} (h : c.wpIn F n P (Exit.noGoto Q) a w) : (Code.scope c).wpIn F n P Q a w := by
  intro b k cs hro hb hr
  have h0 : (lone (b.atR a (.code (.scope c) :: k)) cs w).fenced P F := fenced_calm hb hr rfl
  obtain ⟨e, a₁, w₁, hq, harr⟩ := h b (.inScope c :: k) cs hro hb hr
  cases e with
  | normal => exact ⟨.normal, a₁, w₁, hq, .head h0 stepR_scope (StepsIn.trans harr (.one (fenced_calm hb hr rfl) stepR_inScope))⟩
  | exit id =>
    have hx : exitTo id (.inScope c :: k) = exitTo id k := by simp [exitTo]
    exact ⟨.exit id, a₁, w₁, hq, fun k' hk => .head h0 stepR_scope (harr.1 k' (by rw [hx]; exact hk)),
      fun hr' hk => let ⟨k₁, h1, h2⟩ := harr.2 hr' (by rw [hx]; exact hk); ⟨k₁, h1, .head h0 stepR_scope h2⟩⟩
  | goto l => exact hq.elim
  | ret => exact ⟨_, a₁, w₁, hq, .of_steps (.one h0 stepR_scope) harr⟩
  | panic ch => exact ⟨_, a₁, w₁, hq, .of_steps (.one h0 stepR_scope) harr⟩
  | outgrown => exact ⟨_, a₁, w₁, hq, .of_steps (.one h0 stepR_scope) harr⟩
end
end Go

namespace Go.Jac
open Go

section
variable {P : Program} {n : Nat}

def okX : Exit → Prop
  | .panic _ => False
  | .outgrown => False
  | .goto _ => False
  | _ => True
def Post (n : Nat) (ρ : Env) (md : List Nat) (Q : Exit → Env → WP) : Exit → Act → World → Prop := fun e a' w' =>
  okX e ∧ ∃ ρ', Agree n a' ρ'.val ∧ Gd ρ' ∧ (∀ i, i ∉ md → ρ'.val i = ρ.val i) ∧ Q e ρ' w'

theorem least {G : Type} (p : G → Nat → Prop) (h : ∃ g m, p g m) : ∃ m, (∃ g, p g m) ∧ ∀ g k, p g k → m ≤ k := by
  obtain ⟨g, m, hg⟩ := h
  induction m using Nat.strongRecOn generalizing g with
  | _ m ih =>
    by_cases hl : ∃ g' k, p g' k ∧ k < m
    · obtain ⟨g', k, hp, hk⟩ := hl
      exact ih k hk g' hp
    · refine ⟨m, ⟨g, hg⟩, fun g' k hp => ?_⟩
      rcases Nat.lt_or_ge k m with h1 | h1
      · exact absurd ⟨g', k, hp, h1⟩ hl
      · exact h1
theorem wpIn_loop_ghost {F : Fence} {k : Nat} {c : Code} {Q : Exit → Act → World → Prop} {a : Act} {w : World} {G : Type} (I : G → Act → World → Prop) (μ : G → World → Nat) (g₀ : G) (h₀ : I g₀ a w)
    (round : ∀ g a w, I g a w → c.wpIn F k P (Exit.then (fun a' w' => ∃ g', I g' a' w' ∧ μ g' w' < μ g w) Q) a w) : (Code.loop c).wpIn F k P Q a w := by
  have hl : ∀ a w, ∃ m, (∃ g, I g a w) → ((∃ g, I g a w ∧ μ g w = m) ∧ ∀ g, I g a w → m ≤ μ g w) := by
    intro a w
    by_cases h : ∃ g, I g a w
    · obtain ⟨g, hg⟩ := h
      obtain ⟨m, h1, h2⟩ := least (fun g m => I g a w ∧ μ g w = m) ⟨g, μ g w, hg, rfl⟩
      exact ⟨m, fun _ => ⟨h1, fun g' hg' => h2 g' _ ⟨hg', rfl⟩⟩⟩
    · exact ⟨0, fun h' => absurd h' h⟩
  refine wpIn_loop (fun a w => ∃ g, I g a w) (fun a w => Classical.choose (hl a w)) ⟨g₀, h₀⟩ ?_
  intro a w hI
  obtain ⟨⟨g, hg, hm⟩, _⟩ := Classical.choose_spec (hl a w) hI
  refine wpIn_mono (round g a w hg) fun e a' w' hq => ?_
  cases e with
  | normal =>
    obtain ⟨g', hg', hlt⟩ := hq
    obtain ⟨_, h2⟩ := Classical.choose_spec (hl a' w') ⟨g', hg'⟩
    refine ⟨⟨g', hg'⟩, ?_⟩
    have := h2 g' hg'
    omega
  | _ => exact hq

theorem CndW_cases {x : SV} (hg : x.Good) {t e : WP} {w : World} (h : CndW x t e w) : ∃ c, x.v = .bool c ∧ (cond c t e) w := by
  obtain ⟨k, v⟩ := x
  cases k with
  | tt => exact ⟨true, hg, h⟩
  | ff => exact ⟨false, hg, h⟩
  | un =>
    obtain ⟨c, hc, h1, h2⟩ := h
    exact absurd hc (hg c)
  | unk =>
    obtain ⟨c, hc, h1, h2⟩ := h
    cases c
    · exact ⟨false, hc, h2 rfl⟩
    · exact ⟨true, hc, h1 rfl⟩

theorem puts_agree (hn : n ≤ MK) : ∀ (ps : List Nat) (args : List Value) (t : Array Value) (d : List Deferred) (ρ : Env), Agree n { tmps := t, defers := d } ρ.val → tmpsOk n ps = true →
    Agree n { tmps := (ps.zip args).foldl (fun tmps (p : Nat × Value) => tmps.setIfInBounds p.1 p.2) t, defers := d } (ρ.puts ps args).val
  | [], args, t, d, ρ, h, _ => by cases args <;> exact h
  | i :: r, [], t, d, ρ, h, _ => h
  | i :: r, v :: vs, t, d, ρ, h, hp => by
    have h1 : Nat.blt i n = true := allB_iff.1 hp i (by simp)
    have h2 : tmpsOk n r = true := allB_iff.2 fun x hx => allB_iff.1 hp x (by simp [hx])
    exact puts_agree hn r vs _ d _ (by rw [Env.val_upd]; exact h.put hn (d := some i) v h1) h2

theorem unpX_out {B : Env → WP} {w : World} : ∀ (ps : List Nat) (args : List Value) (ρ : Env), unpX ps args ρ B w → args.length = ps.length ∧ B (ρ.puts ps args) w
  | [], [], ρ, h => ⟨rfl, h⟩
  | [], _ :: _, ρ, h => h.elim
  | i :: r, [], ρ, h => h.elim
  | i :: r, v :: vs, ρ, h => by
    obtain ⟨h1, h2⟩ := unpX_out r vs (ρ.upd i (dy v)) h
    exact ⟨by simp [h1], h2⟩
theorem puts_good : ∀ (ps : List Nat) (args : List Value) (ρ : Env), Gd ρ → Gd (ρ.puts ps args)
  | [], args, ρ, h => by cases args <;> exact h
  | i :: r, [], ρ, h => h
  | i :: r, v :: vs, ρ, h => puts_good r vs _ (h.upd i (good_dy v))
theorem puts_mk (hn : n ≤ MK) {v : SV} : ∀ (ps : List Nat) (args : List Value) (ρ : Env), tmpsOk n ps = true → ρ MK = v → ρ.puts ps args MK = v
  | [], args, ρ, _, h => by cases args <;> exact h
  | i :: r, [], ρ, _, h => h
  | i :: r, x :: vs, ρ, hp, h => by
    have h1 : i + 1 ≤ n := by simpa [Nat.blt] using allB_iff.1 hp i (by simp)
    have h2 : tmpsOk n r = true := allB_iff.2 fun x hx => allB_iff.1 hp x (by simp [hx])
    exact puts_mk hn r vs _ h2 (by rw [Env.upd_ne _ _ (by omega)]; exact h)

theorem exSel_out {Q : Nat → WP} {i : Nat} {w : World} : ∀ (l : List Nat), exSel l Q i w → Q i w
  | [], h => h.elim
  | x :: r, h => by
    rw [exSel] at h
    cases hb : Nat.beq i x with
    | true => rw [hb] at h; have := Nat.eq_of_beq_eq_true hb; subst this; exact h
    | false => rw [hb] at h; exact exSel_out r h
theorem jump_out {F : Fence} {k : Nat} {j : Option Code} {N R : WP} {X : Nat → WP} {w : World} {a : Act} {Q : Exit → Act → World → Prop} (h : JumpC j N R X w) (hN : N w → Q .normal a w) (hR : R w → Q .ret a w) (hX : ∀ i, X i w → Q (.exit i) a w) :
    (j = none → Q .normal a w) ∧ (∀ c, j = some c → c.wpIn F k P Q a w) := by
  cases j with
  | none => exact ⟨fun _ => hN h, (fun c hc => by cases hc)⟩
  | some c =>
    refine ⟨(fun hc => by cases hc), fun c' hc => ?_⟩
    cases hc
    cases c <;> (try exact h.elim)
    · exact wpIn_exit (hX _ h)
    · exact wpIn_ret (hR h)

theorem marks_add (m : Value) (r : Nat) (hm : ∃ vs, m = .tuple vs) : marksOf (addMark m (.pointer (some ⟨r, 0, none⟩))) = { target := .collected r, args := #[] } :: marksOf m := by
  obtain ⟨vs, rfl⟩ := hm
  simp [addMark, marksOf]

/-- A round, out of what its code asks. -/
theorem round_of {x y : Code} {ps : Array Tmp} {ρ : Env} {a : Act} (hn : n ≤ MK) (hA : Agree n a ρ.val) (hGd : Gd ρ) (hps : tmpsOk n ps.toList = true)
    (hx : ∀ (ro : Option Nat) (A : List Nat) (ρ : Env) (Q : Exit → Env → WP) (a : Act) (w : World), Agree n a ρ.val → Gd ρ → (∃ vs, (ρ MK).v = .tuple vs) → W P n x ro A ρ Q w → x.wpIn (FR ro) 0 P (fun e a' w' => Post n ρ (mods x) (fun e ρ' w' => (∃ vs, (ρ' MK).v = .tuple vs) ∧ Q e ρ' w') e a' w') a w)
    (hy : ∀ (ro : Option Nat) (A : List Nat) (ρ : Env) (Q : Exit → Env → WP) (a : Act) (w : World), Agree n a ρ.val → Gd ρ → (∃ vs, (ρ MK).v = .tuple vs) → W P n y ro A ρ Q w → y.wpIn (FR ro) 0 P (fun e a' w' => Post n ρ (mods y) (fun e ρ' w' => (∃ vs, (ρ' MK).v = .tuple vs) ∧ Q e ρ' w') e a' w') a w)
    (r0 : Loop) (h1 : r0.tmps = a.tmps) (h2 : r0.params = ps) (h3 : r0.assign = x) (h4 : r0.body = y) :
    RoundOf P r0 (fun l args K => unpX ps.toList args (ρ.upd MK (dy (.tuple #[]))) fun ρ0 => W P n x (some l) (ue y) ρ0 (thenX (fun ρ1 => RBeg l (W P n y (some l) [] ρ1 fun e _ => match e with
          | .normal => REnd l none K
          | .ret => REnd l (some .ret) K
          | .exit i => REnd l (some (.exit i)) K
          | _ => fun _ => False)) (fun _ _ _ => False))) := by
  rintro l r args K w hl e1 e2 e3 e4 e5 hrd A rfl
  obtain ⟨hlen, hw⟩ := unpX_out ps.toList args _ hrd
  replace hlen : args.length = ps.size := by simpa using hlen
  have hget : ∀ (w : World) (r : Loop), isLp w l r → (Instr.getLoop l).run P w = .ok r w := by
    intro w r h
    unfold Instr.getLoop
    have : w.heap[l]? = some (.loop r) := h
    simp [getObj, Sem.run, this]
  have hset : ∀ (w : World) (r : Loop) (o : Obj), isLp w l r → (setObj l o).run P w = .ok () (World.put' w l o) := by
    intro w r o h
    have : w.heap[l]? = some (.loop r) := h
    simp [setObj, Sem.run, this, World.put']
  let tm := (ps.toList.zip args).foldl (fun tmps (p : Nat × Value) => tmps.setIfInBounds p.1 p.2) a.tmps
  have htm : (r.params.zip args.toArray).foldl (fun tmps (t, a) => tmps.setIfInBounds t a) r.tmps = tm := by
    rw [e2, e3, h1, h2]
    rw [← Array.foldl_toList, Array.toList_zip]
  refine ⟨r.fn, tm, x, y, ?_, rfl, ?_⟩
  · unfold Instr.yield
    have : (#[] ++ args.toArray).size = r.params.size := by rw [e3, h2]; simpa using hlen
    simp only [Sem.run_bind, hget w r hl, Result.andThen_ok, this, ne_eq, not_true_eq_false, if_false, Sem.run_pure]
    rw [e4, h3, e5, h4]
    simp only [Array.empty_append, htm]
  · refine roundIn_of_wpIn (FR_fn none _) ?_
    have hA0 : Agree n { tmps := a.tmps, defers := [] } (ρ.upd MK (dy (.tuple #[]))).val := by
      rw [Env.val_upd]
      refine ⟨hA.size, fun i hi => ?_, ?_⟩
      · rw [VEnv.upd_ne _ _ (by omega)]; exact hA.tmp i hi
      · rw [VEnv.upd_same]; rfl
    refine wpIn_mono (hx (some l) _ _ _ _ _ (puts_agree hn ps.toList args a.tmps [] _ hA0 hps) (puts_good _ _ _ (hGd.upd MK (good_dy _))) ⟨#[], by rw [puts_mk hn ps.toList args _ hps (Env.upd_same _ _ _)]; rfl⟩ hw) ?_
    rintro e a1 w1 ⟨ho, ρ1, hA1, hG1, _, hM1, hq⟩
    cases e with
    | normal =>
      obtain ⟨r1, hl1, hst, hb⟩ := hq
      refine ⟨_, ?_, wpIn_mono (hy (some l) _ _ _ _ _ hA1 hG1 hM1 hb) ?_⟩
      · unfold Instr.beginRound
        simp only [Sem.run_bind, hget _ _ hl1, Result.andThen_ok, hset _ _ _ hl1, hst, Sem.run_pure]
      · rintro e2 a2 w2 ⟨ho2, ρ2, hA2, _, _, _, hq2⟩
        have hend : ∀ j : Option Code, REnd l j K w2 → ∃ v w', (Instr.endRound l j).run P w2 = .ok v w' ∧ ∃ v', Ending.returned v = .returned v' ∧ K v' w' := by
          rintro j ⟨r2, hl2, hk⟩
          refine ⟨_, _, ?_, _, rfl, hk⟩
          unfold Instr.endRound
          simp only [Sem.run_bind, hget _ _ hl2, Result.andThen_ok, hset _ _ _ hl2, Sem.run_pure]
        cases e2 with
        | normal => exact hend none hq2
        | ret => exact hend (some .ret) hq2
        | exit i => exact hend (some (.exit i)) hq2
        | goto t => exact hq2.elim
        | panic c => exact ho2.elim
        | outgrown => exact ho2.elim
    | _ => first | exact hq.elim | exact ho.elim
end
end Go.Jac

namespace Go.Jac
open Go

section
variable {P : Program} {n : Nat}

theorem run_getLoop' {w : World} {l : Nat} {r : Loop} (h : isLp w l r) : (Instr.getLoop l).run P w = .ok r w := by
  unfold Instr.getLoop
  have : w.heap[l]? = some (.loop r) := h
  simp [getObj, Sem.run, this]
theorem run_setLoop' {w : World} {l : Nat} {r : Loop} {o : Obj} (h : isLp w l r) : (setObj l o).run P w = .ok () (World.put' w l o) := by
  have : w.heap[l]? = some (.loop r) := h
  simp [setObj, Sem.run, this, World.put']
theorem run_endLoop' {w : World} {l : Nat} {r : Loop} (h : isLp w l r) (hs : r.state ≠ .busy) : (Instr.endLoop l).run P w = .ok r.pending (World.put' w l (.loop { r with state := .exhausted })) := by
  unfold Instr.endLoop
  have : (r.state == LoopState.busy) = false := by cases hst : r.state <;> first | rfl | exact absurd hst hs
  simp only [Sem.run_bind, run_getLoop' h, Result.andThen_ok, this, Bool.false_eq_true, if_false, run_setLoop' h, Sem.run_pure]

theorem W_sound (hn : n ≤ MK) (hm : P.follows .mixedOrders = true) : ∀ (c : Code), codeOk n c = true → ∀ (ro : Option Nat) (A : List Nat) (ρ : Env) (Q : Exit → Env → WP) (a : Act) (w : World),
    Agree n a ρ.val → Gd ρ → (∃ vs, (ρ MK).v = .tuple vs) → W P n c ro A ρ Q w → c.wpIn (FR ro) 0 P (fun e a' w' => Post n ρ (mods c) (fun e ρ' w' => (∃ vs, (ρ' MK).v = .tuple vs) ∧ Q e ρ' w') e a' w') a w := by
  intro c
  induction c with
  | skip => exact fun _ ro A ρ Q a w hA hG hM h => wpIn_skip ⟨trivial, ρ, hA, hG, fun _ _ => rfl, hM, h⟩
  | label l => exact fun _ ro A ρ Q a w hA hG hM h => wpIn_label ⟨trivial, ρ, hA, hG, fun _ _ => rfl, hM, h⟩
  | ret => exact fun _ ro A ρ Q a w hA hG hM h => wpIn_ret ⟨trivial, ρ, hA, hG, fun _ _ => rfl, hM, h⟩
  | exit i => exact fun _ ro A ρ Q a w hA hG hM h => wpIn_exit ⟨trivial, ρ, hA, hG, fun _ _ => rfl, hM, h⟩
  | goto l => exact fun _ ro A ρ Q a w hA hG hM h => h.elim
  | refuse s => exact fun _ ro A ρ Q a w hA hG hM h => h.elim
  | scope c ih =>
    intro hok ro A ρ Q a w hA hG hM h
    refine wpIn_scope (wpIn_mono (ih hok ro A ρ _ a w hA hG hM h) ?_)
    rintro e a' w' ⟨ho, h'⟩
    cases e with
    | goto l => exact ho.elim
    | _ => exact ⟨ho, h'⟩
  | region id ops draw =>
    intro hok ro A ρ Q a w hA hG hM h
    have hall : allB (opOk n) ops.toList = true := hok
    have hMk : ∀ ρ' : Env, (∀ i, i ∉ dsts ops.toList → ρ'.val i = ρ.val i) → ∃ vs, (ρ' MK).v = .tuple vs := fun ρ' hk => by
      refine ⟨_, (hk MK fun hmem => ?_).trans hM.choose_spec⟩
      obtain ⟨o, ho, hd⟩ := List.mem_flatMap.1 hmem
      have hd' : o.dst = some MK := by simpa using hd
      have := opOk_dst (allB_iff.1 hall o ho)
      rw [hd'] at this
      have : MK + 1 ≤ n := by simpa [Nat.blt] using this
      omega
    cases draw with
    | false =>
      refine wpIn_region ?_
      have := wops_sound (ro := ro) (Q := Post n ρ (mods (.region id ops false)) (fun e ρ' w' => (∃ vs, (ρ' MK).v = .tuple vs) ∧ Q e ρ' w')) hn hall (List.range ops.size) ops.toList (fun _ h => h) (by
        refine List.ext_getElem? fun i => ?_
        simp only [List.getElem?_map]
        by_cases hi : i < ops.size
        · rw [List.getElem?_range hi]; simp [hi]
        · rw [List.getElem?_eq_none (by simp; omega), List.getElem?_eq_none (by simp; omega)]; rfl) a ρ w (Q .normal) hA hG h []
        (fun a' ρ' w' hA' hG' hk hq => ⟨trivial, ρ', hA', hG', hk, hMk ρ' hk, hq⟩)
      simpa using this
    | true =>
      unfold W at h
      cases hd : drawOk ops.toList with
      | false => rw [hd] at h; exact h.elim
      | true =>
        rw [hd] at h
        exact draw_sound hn hm hall hd hA hG (fun a' ρ' w' hA' hG' hk hq => ⟨trivial, ρ', hA', hG', hk, hMk ρ' hk, hq⟩) h
  | cond c x y ihx ihy =>
    intro hok ro A ρ Q a w hA hG hM h
    have h0 : tmpsOk n (rdOf c) = true := by unfold codeOk at hok; cases hh : tmpsOk n (rdOf c) <;> simp [hh] at hok ⊢
    have h1 : codeOk n x = true := by unfold codeOk at hok; rw [h0] at hok; cases hh : codeOk n x <;> simp [hh] at hok ⊢
    have h2 : codeOk n y = true := by unfold codeOk at hok; rw [h0, h1] at hok; exact hok
    obtain ⟨b, hb, hw⟩ := CndW_cases (good_evS hG c) h
    have hc : a.eval c = .bool b := by rw [hA.ev_eq h0, ← ev_val]; exact hb
    refine wpIn_cond hc ?_
    cases b with
    | true => exact wpIn_mono (ihx h1 ro A ρ Q a w hA hG hM hw) fun e a' w' ⟨ho, ρ', hA', hG', hk, hq⟩ => ⟨ho, ρ', hA', hG', fun i hi => hk i fun hm' => hi (List.mem_append_left _ hm'), hq⟩
    | false => exact wpIn_mono (ihy h2 ro A ρ Q a w hA hG hM hw) fun e a' w' ⟨ho, ρ', hA', hG', hk, hq⟩ => ⟨ho, ρ', hA', hG', fun i hi => hk i fun hm' => hi (List.mem_append_right _ hm'), hq⟩
  | block id c ih =>
    intro hok ro A ρ Q a w hA hG hM h
    refine wpIn_block (wpIn_mono (ih hok ro A ρ _ a w hA hG hM h) ?_)
    rintro e a' w' ⟨ho, ρ', hA', hG', hk, hM', hq⟩
    cases e with
    | exit i =>
      simp only [blockX] at hq
      simp only [Exit.inBlock]
      cases hb : Nat.beq i id with
      | true => rw [hb] at hq; rw [if_pos (Nat.eq_of_beq_eq_true hb)]; exact ⟨trivial, ρ', hA', hG', hk, hM', hq⟩
      | false => rw [hb] at hq; rw [if_neg (Nat.ne_of_beq_eq_false hb)]; exact ⟨trivial, ρ', hA', hG', hk, hM', hq⟩
    | _ => first | exact ho.elim | exact ⟨trivial, ρ', hA', hG', hk, hM', hq⟩
  | seq x y ihx ihy =>
    intro hok ro A ρ Q a w hA hG hM h
    have h1 : codeOk n x = true := by unfold codeOk at hok; cases hh : codeOk n x <;> simp [hh] at hok ⊢
    have h2 : codeOk n y = true := by unfold codeOk at hok; rw [h1] at hok; exact hok
    have key : ∀ N : Env → WP, W P n x ro (ue y ++ A) ρ (thenX N Q) w → (∀ ρ1 w1, Gd ρ1 → (∀ i, i ∉ mods x → ρ1.val i = ρ.val i) → N ρ1 w1 → ∃ ρ2 : Env, ρ2.val = ρ1.val ∧ Gd ρ2 ∧ W P n y ro A ρ2 Q w1) →
        (Code.seq x y).wpIn (FR ro) 0 P (fun e a' w' => Post n ρ (mods (.seq x y)) (fun e ρ' w' => (∃ vs, (ρ' MK).v = .tuple vs) ∧ Q e ρ' w') e a' w') a w := by
      intro N hw hN
      refine wpIn_seq (wpIn_mono (ihx h1 ro _ ρ _ a w hA hG hM hw) ?_)
      rintro e a1 w1 ⟨ho, ρ1, hA1, hG1, hk1, hM1, hq⟩
      cases e with
      | normal =>
        obtain ⟨ρ3, hv3, hG3, hw3⟩ := hN ρ1 w1 hG1 hk1 hq
        refine wpIn_mono (ihy h2 ro A ρ3 Q a1 w1 (by rw [hv3]; exact hA1) hG3 (by obtain ⟨vs, hvs⟩ := hM1; exact ⟨vs, (congrFun hv3 MK).trans hvs⟩) hw3) ?_
        rintro e2 a2 w2 ⟨ho2, ρ2, hA2, hG2, hk2, hq2⟩
        rw [hv3] at hk2
        exact ⟨ho2, ρ2, hA2, hG2, fun i hi => (hk2 i fun hm' => hi (List.mem_append_right _ hm')).trans (hk1 i fun hm' => hi (List.mem_append_left _ hm')), hq2⟩
      | _ => first | exact ho.elim | exact ⟨trivial, ρ1, hA1, hG1, fun i hi => hk1 i fun hm' => hi (List.mem_append_left _ hm'), hM1, hq⟩
    unfold W at h
    cases hj : joinN x y with
    | false => rw [hj] at h; exact key _ h fun ρ1 w1 hG1 _ h => ⟨ρ1, rfl, hG1, h⟩
    | true =>
      rw [hj] at h
      exact key _ (h _ fun vs w' hv => hv) fun ρ1 w1 hG1 hk1 hv => unp_use (B := fun ρ' => W P n y ro A ρ' Q) hG1 hG hk1 hv
  | loop c ih =>
    intro hok ro A ρ Q a w hA hG hM h
    obtain ⟨I, μ, h0, hr⟩ := h
    refine wpIn_loop_ghost (G := Env) (fun g a w => Agree n a g.val ∧ Gd g ∧ (∃ vs, (g MK).v = .tuple vs) ∧ (∀ i, i ∉ mods c → g.val i = ρ.val i) ∧ I (vals g (liveL (mods c) (ue c ++ A))) w) (fun g w => μ (vals g (liveL (mods c) (ue c ++ A))) w) ρ ⟨hA, hG, hM, fun _ _ => rfl, h0⟩ ?_
    rintro g a1 w1 ⟨hA1, hG1, hM1, hk1, hI⟩
    obtain ⟨g', hv', hG', hb⟩ := unp_use (B := fun ρ' => W P n c ro (ue c ++ A) ρ' _) hG1 hG hk1 (hr _ w1 hI)
    refine wpIn_mono (ih hok ro _ g' _ a1 w1 (by rw [hv']; exact hA1) hG' (by obtain ⟨vs, hvs⟩ := hM1; exact ⟨vs, (congrFun hv' MK).trans hvs⟩) hb) ?_
    rintro e a2 w2 ⟨ho, ρ2, hA2, hG2, hk2, hM2, hq⟩
    rw [hv'] at hk2
    cases e with
    | normal => exact ⟨ρ2, ⟨hA2, hG2, hM2, fun i hi => (hk2 i hi).trans (hk1 i hi), hq.1⟩, hq.2⟩
    | _ => first | exact ho.elim | exact ⟨trivial, ρ2, hA2, hG2, fun i hi => (hk2 i hi).trans (hk1 i hi), hM2, hq⟩
  | rangeFunc f ps x y ihx ihy =>
    intro hok ro A ρ Q a w hA hG hM h
    have h0 : tmpsOk n (rdOf f) = true := by unfold codeOk at hok; cases hh : tmpsOk n (rdOf f) <;> simp [hh] at hok ⊢
    have h0' : tmpsOk n ps.toList = true := by unfold codeOk at hok; rw [h0] at hok; cases hh : tmpsOk n ps.toList <;> simp [hh] at hok ⊢
    have h1 : codeOk n x = true := by unfold codeOk at hok; rw [h0, h0'] at hok; cases hh : codeOk n x <;> simp [hh] at hok ⊢
    have h2 : codeOk n y = true := by unfold codeOk at hok; rw [h0, h0', h1] at hok; exact hok
    have hf : a.eval f = ev ρ f := by rw [hA.ev_eq h0, ev_val]
    have rd := fun (r0 : Loop) g1 g2 g3 g4 => round_of (P := P) (x := x) (y := y) (ps := ps) hn hA hG h0' (fun ro A ρ Q a w => ihx h1 ro A ρ Q a w) (fun ro A ρ Q a w => ihy h2 ro A ρ Q a w) r0 g1 g2 g3 g4
    have hres : ∀ (k : FuncId) (caps : Array Value) (l : Nat) (w1 : World), ev ρ f = .func (.func k) #[] caps → (resolve a.eval (rangeCall f l) 0).run P w1 = .ok { target := .fn (.func k) caps, args := #[.func (.yield l) #[] #[]] } w1 := by
      intro k caps l w1 hk
      have h2 : a.eval (.const (.func (.yield l) #[] #[])) = .func (.yield l) #[] #[] := rfl
      simp [resolve, hf, hk, Deferred.ofValue, h2]
    cases ro with
    | none =>
      obtain ⟨k, caps, hk, he, hc⟩ := h
      refine wpIn_rangeFunc fun fn _ => ?_
      let r0 : Loop := { state := .ready, pending := none, fn := fn, tmps := a.tmps, params := ps, assign := x, body := y, defers := w.heap.size }
      have hcl := hc r0 rfl rfl rfl (rd r0 rfl rfl rfl rfl)
      refine ⟨w.heap.size + 1, [{ target := .collected w.heap.size, args := #[] }], { w with heap := (w.heap.push (.deferred (some []))).push (.loop r0) }, _, _, k, _, _, ?_, hres k caps _ _ hk, fun f' _ => FR_fn none f', ?_, FR_depth none 0, callsIn_of (Calls.mono hcl ?_)⟩
      · simp only [FR_round, Instr.enterLoop, Sem.run_bind, run_newObj, Result.andThen_ok, Sem.run_pure, Array.size_push]
        rfl
      · simp only [invoke, he]
      · rintro e w3 ⟨v, rfl, r, hl, hs, hst, hj⟩
        refine ⟨r.pending, _, run_endLoop' hl hst, ?_⟩
        have hA' : Agree n { a with defers := { target := .collected w.heap.size, args := #[] } :: a.defers } (ρ.upd MK (dy (addMark (ρ MK).v (.pointer (some ⟨w.heap.size, 0, none⟩))))).val := by
          rw [Env.val_upd]
          refine ⟨hA.size, fun i hi => ?_, ?_⟩
          · rw [VEnv.upd_ne _ _ (by omega)]; exact hA.tmp i hi
          · rw [VEnv.upd_same]
            simp only [dy]
            rw [marks_add _ _ hM]
            have := hA.defers
            simp only [this]
            rfl
        have hG' : Gd (ρ.upd MK (dy (addMark (ρ MK).v (.pointer (some ⟨w.heap.size, 0, none⟩))))) := hG.upd MK (good_dy _)
        have hM' : ∃ vs, ((ρ.upd MK (dy (addMark (ρ MK).v (.pointer (some ⟨w.heap.size, 0, none⟩))))) MK).v = .tuple vs := by
          rw [Env.upd_same]
          obtain ⟨vs, hvs⟩ := hM
          rw [hvs]; exact ⟨_, rfl⟩
        have hk' : ∀ i, i ∉ mods (.rangeFunc f ps x y) → (ρ.upd MK (dy (addMark (ρ MK).v (.pointer (some ⟨w.heap.size, 0, none⟩))))).val i = ρ.val i := fun i hi => by
          rw [Env.val_upd]; exact VEnv.upd_ne _ _ fun e => hi (by simp [mods, e])
        have hjj := jump_out (P := P) (F := FR none) (k := 0) (a := { a with defers := { target := .collected w.heap.size, args := #[] } :: a.defers }) (Q := fun e a' w' => Post n ρ (mods (.rangeFunc f ps x y)) (fun e ρ' w' => (∃ vs, (ρ' MK).v = .tuple vs) ∧ Q e ρ' w') e a' w') hj (fun hq => ⟨trivial, _, hA', hG', hk', hM', hq⟩) (fun hq => ⟨trivial, _, hA', hG', hk', hM', hq⟩) (fun i hq => ⟨trivial, _, hA', hG', hk', hM', exSel_out (Q := fun i => Q (.exit i) _) _ hq⟩)
        cases hp : r.pending with
        | none => rw [hp] at hjj; exact hjj.1 rfl
        | some c => rw [hp] at hjj; exact hjj.2 c rfl
    | some l0 =>
      obtain ⟨k, caps, rr, hk, he, hl0, hc⟩ := h
      refine wpIn_rangeFunc fun fn _ => ?_
      let r0 : Loop := { state := .ready, pending := none, fn := fn, tmps := a.tmps, params := ps, assign := x, body := y, defers := rr.defers }
      have hcl := hc r0 rfl rfl rfl (rd r0 rfl rfl rfl rfl)
      refine ⟨w.heap.size, [], { w with heap := w.heap.push (.loop r0) }, _, _, k, _, _, ?_, hres k caps _ _ hk, fun f' _ => FR_fn _ f', ?_, FR_depth _ 0, callsIn_of (Calls.mono hcl ?_)⟩
      · simp only [FR_round, Instr.enterLoop, Sem.run_bind, run_getLoop' hl0, run_newObj, Result.andThen_ok, Sem.run_pure]
        rfl
      · simp only [invoke, he]
      · rintro e w3 ⟨v, rfl, r, hl, hs, hst, hj⟩
        refine ⟨r.pending, _, run_endLoop' hl hst, ?_⟩
        have hjj := jump_out (P := P) (F := FR (some l0)) (k := 0) (a := a) (Q := fun e a' w' => Post n ρ (mods (.rangeFunc f ps x y)) (fun e ρ' w' => (∃ vs, (ρ' MK).v = .tuple vs) ∧ Q e ρ' w') e a' w') hj (fun hq => ⟨trivial, ρ, hA, hG, fun _ _ => rfl, hM, hq⟩) (fun hq => ⟨trivial, ρ, hA, hG, fun _ _ => rfl, hM, hq⟩) (fun i hq => ⟨trivial, ρ, hA, hG, fun _ _ => rfl, hM, exSel_out (Q := fun i => Q (.exit i) _) _ hq⟩)
        cases hp : r.pending with
        | none => rw [hp] at hjj; exact hjj.1 rfl
        | some c => rw [hp] at hjj; exact hjj.2 c rfl

/-! ### Functions -/
/-- The marks of the loops over functions are taken up. -/
def LvL : List Value → WP → WP
  | [], K => K
  | .pointer (some a) :: r, K => fun w => w.heap[a.block]? = some (.deferred (some [])) ∧ LvL r K (World.put' w a.block (.deferred none))
  | _ :: _, _ => fun _ => False
def LvC (m : Value) (K : WP) : WP := fun w => match m with
  | .tuple vs => LvL vs.toList K w
  | _ => False
def LvW (m : Value) (K : WP) : WP := match m with
  | .tuple ⟨[]⟩ => K
  | m => LvC m K
def ResL (P : Program) : List ResultVar → Env → List Value → (List Value → WP) → WP
  | [], _, acc, K => K acc
  | .tmp t :: r, ρ, acc, K => ResL P r ρ (acc ++ [(ρ t).v]) K
  | .cell t ty :: r, ρ, acc, K => match P.underlying ty with
    | some (.struct _) | some (.array _ _) => (match P.info? ty with | some i => LdN i.size (ρ t).v fun v => ResL P r ρ (acc ++ [v]) K | none => fun _ => False)
    | some _ => Ld1 (ρ t).v fun v => ResL P r ρ (acc ++ [v]) K
    | none => fun _ => False
def tupl : List Value → Value
  | [v] => v
  | vs => .tuple vs.toArray
def env0 (args : List Value) : Env := fun i => cond (Nat.beq i MK) (dy (.tuple #[])) (match args[i]? with | some v => dy v | none => su)
def resTmps : List ResultVar → List Nat
  | [] => []
  | .tmp t :: r => t :: resTmps r
  | .cell t _ :: r => t :: resTmps r
/-- What a function asks. -/
def WF (P : Program) (fn : Func) (args : List Value) (K : Value → WP) : WP := match fn.body with
  | none => fun _ => False
  | some c => W P fn.ntmps c none (MK :: resTmps fn.results.toList) (env0 args) fun e ρ => match e with
    | .normal => LvW (ρ MK).v (ResL P fn.results.toList ρ [] fun vs => K (tupl vs))
    | .ret => LvW (ρ MK).v (ResL P fn.results.toList ρ [] fun vs => K (tupl vs))
    | _ => fun _ => False

theorem LvW_C {m : Value} {K : WP} {w : World} (h : LvW m K w) : LvC m K w := by
  unfold LvW at h
  split at h
  · exact h
  · exact h
def resOf (tmps : Array Value) : ResultVar → Sem Value
  | .tmp t => pure (tmps.getD t undef)
  | .cell a t => do loadVar t (← asAddr (tmps.getD a undef))
theorem results_eq (fn : Func) (tmps : Array Value) : results fn tmps = (do
  let vs ← fn.results.mapM (resOf tmps)
  pure (if h : vs.size = 1 then vs[0] else .tuple vs)) := rfl
theorem resL_run {fn : Func} {a : Act} {ρ : Env} {w : World} {K : List Value → WP} (hA : ∀ t ∈ resTmps fn.results.toList, a.tmps.getD t undef = (ρ t).v) : ∀ (l : List ResultVar) (acc : List Value), (∀ t ∈ resTmps l, t ∈ resTmps fn.results.toList) → ResL P l ρ acc K w →
    ∃ vs, K vs w ∧ (l.mapM (resOf a.tmps)).run P w = .ok (vs.drop acc.length) w ∧ vs.take acc.length = acc := by
  intro l
  induction l with
  | nil => exact fun acc _ h => ⟨acc, h, by simp, by simp⟩
  | cons x r ih =>
    intro acc hs h
    have step : ∀ v, ResL P r ρ (acc ++ [v]) K w → (resOf a.tmps x).run P w = .ok v w →
        ∃ vs, K vs w ∧ ((x :: r).mapM (resOf a.tmps)).run P w = .ok (vs.drop acc.length) w ∧ vs.take acc.length = acc := by
      intro v hr hv
      obtain ⟨vs, hk, hrun, htk⟩ := ih (acc ++ [v]) (fun t ht => hs t (by cases x <;> simp [resTmps, ht])) hr
      have hlen : acc.length + 1 ≤ vs.length := by
        have := congrArg List.length htk
        simp at this; omega
      have hv' : vs[acc.length]? = some v := by
        have : (vs.take (acc.length + 1))[acc.length]? = some v := by
          have h1 : vs.take (acc.length + 1) = acc ++ [v] := by simpa using htk
          rw [h1]; simp
        rw [List.getElem?_take_of_lt (by omega)] at this
        exact this
      refine ⟨vs, hk, ?_, ?_⟩
      · rw [List.mapM_cons, Sem.run_bind]
        rw [hv]
        simp only [Result.andThen_ok, Sem.run_bind, hrun, Sem.run_pure]
        congr 1
        rw [List.getElem?_eq_getElem (by omega)] at hv'
        rw [List.drop_eq_getElem_cons (i := acc.length) (by omega), Option.some.inj hv']
        simp
      · have : (vs.take (acc.length + 1)).take acc.length = (acc ++ [v]).take acc.length := by
          have h1 : vs.take (acc.length + 1) = acc ++ [v] := by simpa using htk
          rw [h1]
        rw [List.take_take] at this
        simpa using this
    cases x with
    | tmp t =>
      refine step (ρ t).v h ?_
      simp only [resOf, hA t (hs t (by simp [resTmps])), Sem.run_pure]
    | cell t ty =>
      have ht := hA t (hs t (by simp [resTmps]))
      unfold ResL at h
      cases hd : P.underlying ty with
      | none => rw [hd] at h; exact h.elim
      | some d =>
        rw [hd] at h
        have one : dAgg d = false → Ld1 (ρ t).v (fun v => ResL P r ρ (acc ++ [v]) K) w → ∃ vs, K vs w ∧ ((ResultVar.cell t ty :: r).mapM (resOf a.tmps)).run P w = .ok (vs.drop acc.length) w ∧ vs.take acc.length = acc := by
          intro hag h
          obtain ⟨p, v, hp, hc, hv⟩ := h
          refine step v hv ?_
          simp only [resOf, ht, hp, asAddr, loadVar, Sem.run_bind, Sem.run_pure, Result.andThen_ok, run_isAgg hd, hag, Bool.false_eq_true, if_false, run_load, hc]
        have agg : dAgg d = true → ∀ i, P.info? ty = some i → LdN i.size (ρ t).v (fun v => ResL P r ρ (acc ++ [v]) K) w → ∃ vs, K vs w ∧ ((ResultVar.cell t ty :: r).mapM (resOf a.tmps)).run P w = .ok (vs.drop acc.length) w ∧ vs.take acc.length = acc := by
          intro hag i hi h
          obtain ⟨p, vs, hp, hl, hc, hv⟩ := h
          refine step _ hv ?_
          simp only [resOf, ht, hp, asAddr, loadVar, Sem.run_bind, Sem.run_pure, Result.andThen_ok, run_isAgg hd, hag, if_true, run_sizeOf hi, ← hl, run_cells hc]
        cases d with
        | struct fs =>
          cases hi : P.info? ty with
          | none => simp only [hi] at h
          | some i => simp only [hi] at h; exact agg rfl i hi h
        | array m e =>
          cases hi : P.info? ty with
          | none => simp only [hi] at h
          | some i => simp only [hi] at h; exact agg rfl i hi h
        | _ => exact one rfl h

theorem res_run {fn : Func} {a : Act} {ρ : Env} {w : World} {K : Value → WP} (hA : ∀ t ∈ resTmps fn.results.toList, a.tmps.getD t undef = (ρ t).v) (h : ResL P fn.results.toList ρ [] (fun vs => K (tupl vs)) w) :
    ∃ v, (results fn a.tmps).run P w = .ok v w ∧ K v w := by
  obtain ⟨vs, hk, hrun, _⟩ := resL_run hA fn.results.toList [] (fun _ h => h) h
  refine ⟨tupl vs, ?_, hk⟩
  rw [results_eq, Sem.run_bind]
  have e : (fn.results.mapM (resOf a.tmps)).run P w = .ok vs.toArray w := by
    rw [← Array.toArray_toList (xs := fn.results), List.mapM_toArray, Sem.run_map, hrun]
    simp
  rw [e]
  simp only [Result.andThen_ok, Sem.run_pure]
  match vs with
  | [] => rfl
  | [v] => rfl
  | _ :: _ :: _ => rfl

theorem lv_out {fn : Func} {a : Act} {K : Value → WP} (N : WP) (hN : ∀ w, N w → ∃ v, (results fn a.tmps).run P w = .ok v w ∧ K v w) :
    ∀ (vs : List Value) (w : World), LvL vs N w → LeavesInM (FR none) 0 P fn a.tmps (fun e w' => ∃ v, e = .returned v ∧ K v w') (vs.map fun | .pointer (some a) => { target := .collected a.block, args := #[] } | _ => default) .returning w
  | [], w, h => by
    obtain ⟨v, hv, hk⟩ := hN w h
    exact ⟨v, hv, v, rfl, hk⟩
  | x :: r, w, h => by
    cases x with
    | pointer p =>
      cases p with
      | none => exact h.elim
      | some p =>
        obtain ⟨hh, h⟩ := h
        refine ⟨by simp, .inl ⟨p.block, _, rfl, ?_, lv_out N hN r _ h⟩⟩
        unfold Instr.takeDeferred
        simp [getObj, setObj, Sem.run, hh, World.put']
    | _ => exact h.elim

theorem WF_sound (hm : P.follows .mixedOrders = true) {f : FuncId} {fn : Func} {c : Code} (hf : P.funcs[f]? = some fn) (hb : fn.body = some c) (hn : Nat.ble fn.ntmps MK = true) (hok : codeOk fn.ntmps c = true) (hres : tmpsOk fn.ntmps (resTmps fn.results.toList) = true)
    {args : List Value} (hargs : Nat.ble args.length fn.ntmps = true) {K : Value → WP} {w : World} (h : WF P fn args K w) : Cl P f args.toArray K w := by
  have hn' : fn.ntmps ≤ MK := Nat.le_of_ble_eq_true hn
  have ha' : args.length ≤ fn.ntmps := Nat.le_of_ble_eq_true hargs
  refine calls_of_in (ro := none) (n := 0) (callsIn_of_wp_marks hf hb trivial (hro := rfl) ?_)
  unfold WF at h
  rw [hb] at h
  have hA : Agree fn.ntmps { tmps := args.toArray ++ Array.replicate (fn.ntmps - args.toArray.size) undef, defers := [] } (env0 args).val := by
    refine ⟨by simp; omega, fun i hi => ?_, rfl⟩
    have : Nat.beq i MK = false := by rw [← Bool.not_eq_true]; simp; omega
    simp only [Env.val, env0, this, cond_false]
    rw [Array.getD_eq_getD_getElem?]
    by_cases hl : i < args.length
    · rw [Array.getElem?_append_left (by simpa using hl)]
      rw [List.getElem?_eq_getElem hl]
      simp [hl, dy]
    · rw [Array.getElem?_append_right (by simp; omega)]
      rw [List.getElem?_eq_none (by omega)]
      simp only [List.size_toArray, Array.getElem?_replicate]
      split <;> rfl
  refine wpIn_mono (W_sound hn' hm c hok none _ _ _ _ w hA (fun i => by
    unfold env0
    cases Nat.beq i MK with
    | true => trivial
    | false =>
      simp only [cond_false]
      split
      · trivial
      · exact good_su) ⟨#[], rfl⟩ h) ?_
  rintro e a' w' ⟨ho, ρ', hA', _, _, ⟨vs, hvs⟩, hq⟩
  have fin : LvW (ρ' MK).v (ResL P fn.results.toList ρ' [] fun vs => K (tupl vs)) w' → LeavesInM (FR none) 0 P fn a'.tmps (fun e w' => ∃ v, e = .returned v ∧ K v w') a'.defers .returning w' := by
    intro hl
    have hl := LvW_C hl
    rw [hvs] at hl
    have := lv_out (P := P) (fn := fn) (a := a') (K := K) _ (fun w hw => res_run (fun t ht => hA'.tmp t (by
      have := allB_iff.1 hres t ht
      have : t + 1 ≤ fn.ntmps := by simpa [Nat.blt] using this
      omega)) hw) vs.toList w' hl
    rw [hA'.defers, show ρ'.val MK = _ from hvs]
    exact this
  cases e with
  | normal => exact fin hq
  | ret => exact fin hq
  | _ => first | exact hq.elim | exact ho.elim

def fnOk (fn : Func) (k : Nat) : Bool := match fn.body with
  | none => false
  | some c => cond (Nat.ble fn.ntmps MK) (cond (codeOk fn.ntmps c) (cond (tmpsOk fn.ntmps (resTmps fn.results.toList)) (Nat.ble k fn.ntmps) false) false) false
theorem cl_of (hm : P.follows .mixedOrders = true) {f : FuncId} {fn : Func} (hf : P.funcs[f]? = some fn) {args : List Value} (hok : fnOk fn args.length = true) {K : Value → WP} {w : World} (h : WF P fn args K w) : Cl P f args.toArray K w := by
  unfold fnOk at hok
  cases hb : fn.body with
  | none => rw [hb] at hok; cases hok
  | some c =>
    rw [hb] at hok
    dsimp only at hok
    cases h1 : Nat.ble fn.ntmps MK <;> rw [h1] at hok <;> (try cases hok)
    cases h2 : codeOk fn.ntmps c <;> rw [h2] at hok <;> (try cases hok)
    cases h3 : tmpsOk fn.ntmps (resTmps fn.results.toList) <;> rw [h3] at hok <;> (try cases hok)
    exact WF_sound hm hf hb h1 h2 h3 hok h
end
end Go.Jac
