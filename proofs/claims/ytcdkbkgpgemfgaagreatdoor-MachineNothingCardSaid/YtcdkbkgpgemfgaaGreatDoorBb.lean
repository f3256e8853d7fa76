/- What each operation asks, told of values. -/
import Derived.Test.YtcdkbkgpgemfgaaGreatDoorBa
import Derived.Laws.StructEq
import Derived.Laws.Pointers
namespace Go.Jac
open Go

/-! ### What the operations come to -/
def Ex (P : Program) (s : Sem Value) (K : Value → WP) : WP := fun w => ∃ v w', s.run P w = .ok v w' ∧ K v w'
def Ld1 (a : Value) (K : Value → WP) : WP := fun w => ∃ p v, a = .pointer (some p) ∧ w.cell? p = some v ∧ K v w
def LdN (n : Nat) (a : Value) (K : Value → WP) : WP := fun w => ∃ (p : Addr) (vs : List Value), a = .pointer (some p) ∧ vs.length = n ∧ (∀ j v, vs[j]? = some v → w.cell? (p.add j) = some v) ∧ K (.agg vs.toArray) w
def stCells (p : Addr) : List Value → Nat → World → World
  | [], _, w => w
  | v :: r, i, w => stCells p r (i + 1) (w.setCell (p.add i) v)
def Storable (w : World) (p : Addr) (vs : List Value) (i : Nat) : Prop :=
  ∀ j v, vs[j]? = some v → v.oneCell' = true ∧ (∃ o, w.cell? (p.add (i + j)) = some o) ∧ w.frozen? (p.add (i + j)) = false
def St (n : Nat) (a v : Value) (K : Value → WP) : WP := fun w => ∃ p, a = .pointer (some p) ∧ v.cells.size = n ∧ Storable w p v.cells.toList 0 ∧ K undef (stCells p v.cells.toList 0 w)
def New (t : TypeId) (cells : Array Value) (K : Value → WP) : WP := fun w => K (.pointer (some ⟨w.heap.size, 0, none⟩)) { w with heap := w.heap.push (.cells cells t) }
def NilC (x : Value) (K : Value → WP) : WP := fun w => (match x with | .pointer (some _) | .func (.func _) _ _ | .func (.yield _) _ _ => K x w | _ => False)
def FA (x : Value) (off : Nat) (K : Value → WP) : WP := fun w => (match x with | .pointer (some p) => K (.pointer (some (p.add off))) w | _ => False)
def IA (es : Nat) (x i : Value) (K : Value → WP) : WP := fun w => ∃ p len cap k n, x = .slice (some p) len cap ∧ i = .int k n ∧ 0 ≤ n ∧ n < (len : Int) ∧ K (.pointer (some (p.add (n.toNat * es)))) w
def IAr (len es : Nat) (x i : Value) (K : Value → WP) : WP := fun w => ∃ p k n, x = .pointer (some p) ∧ i = .int k n ∧ 0 ≤ n ∧ n < (len : Int) ∧ K (.pointer (some (p.add (n.toNat * es)))) w
def intBin (op : BinOp) (k : IntKind) (a : Int) (k' : IntKind) (b : Int) : Option Value :=
  match op with
  | .shl => if b < 0 then none else some (.int k (k.wrap (a * 2 ^ (min b.toNat k.bits))))
  | .shr => if b < 0 then none else some (.int k (a.fdiv (2 ^ (min b.toNat k.bits))))
  | .add => if k = k' then some (.int k (k.wrap (a + b))) else none
  | .sub => if k = k' then some (.int k (k.wrap (a - b))) else none
  | .mul => if k = k' then some (.int k (k.wrap (a * b))) else none
  | .quo => if k = k' ∧ b ≠ 0 then some (.int k (k.wrap (a.tdiv b))) else none
  | .rem => if k = k' ∧ b ≠ 0 then some (.int k (a.tmod b)) else none
  | .and => if k = k' then some (.int k (k.wrap (BitVec.ofInt k.bits a &&& BitVec.ofInt k.bits b).toNat)) else none
  | .or => if k = k' then some (.int k (k.wrap (BitVec.ofInt k.bits a ||| BitVec.ofInt k.bits b).toNat)) else none
  | .xor => if k = k' then some (.int k (k.wrap (BitVec.ofInt k.bits a ^^^ BitVec.ofInt k.bits b).toNat)) else none
  | .andNot => if k = k' then some (.int k (k.wrap (BitVec.ofInt k.bits a &&& ~~~ BitVec.ofInt k.bits b).toNat)) else none
  | .eql => if k = k' then some (.bool (a == b)) else none
  | .neq => if k = k' then some (.bool (a != b)) else none
  | .lss => if k = k' then some (.bool (a < b)) else none
  | .leq => if k = k' then some (.bool (a ≤ b)) else none
  | .gtr => if k = k' then some (.bool (a > b)) else none
  | .geq => if k = k' then some (.bool (a ≥ b)) else none
def BinI (op : BinOp) (x y : Value) (K : Value → WP) : WP := fun w => ∃ k a k' b v, x = .int k a ∧ y = .int k' b ∧ intBin op k a k' b = some v ∧ K v w
def BinX (P : Program) (op : BinOp) (t : TypeId) (ox oy : Operand) (x y : Value) (K : Value → WP) : WP := Ex P (do eqGuard op t ox oy x y; binOp op t x y) K
def Un (op : UnOp) (x : Value) (K : Value → WP) : WP := fun w => ∃ v, (∀ P w', (Op.unary op x).run P w' = .ok v w') ∧ K v w
def Pick (c a b : Value) (K : Value → WP) : WP := fun w => (match c with | .bool true => K a w | .bool false => K b w | _ => False)
def Ext (t : Value) (i : Nat) (K : Value → WP) : WP := fun w => (match t with | .tuple vs => (match vs[i]? with | some v => K v w | none => False) | _ => False)
def ConvI (k : IntKind) (x : Value) (K : Value → WP) : WP := fun w => (match x with | .int _ n => K (.int k (k.wrap n)) w | _ => False)
def LenS (x : Value) (K : Value → WP) : WP := fun w => (match x with | .slice _ n _ => K (.int .i64 n) w | _ => False)

/-! ### Operations whose types are looked up already -/
def flatFs (P : Program) : List Field → Nat → Bool
  | [], _ => true
  | f :: r, k => cond (Nat.beq f.offset k) (cond (f.name != "_") (match P.underlying f.type with | some (.int _) => flatFs P r (k + 1) | _ => false) false) false
def flatS (P : Program) (t : TypeId) (fs : Array Field) : Bool := cond (flatFs P fs.toList 0) (cond (P.stoodInHeld t) false (!P.eqGuardType P.depth t)) false
def bldS (zero : Array Value) (places : List (Nat × Nat)) (parts : Array (Nat × Value)) : Sem Value :=
  match Instr.fill (fun i => places[i]?) zero parts.toList with
  | some cells => pure (.agg cells)
  | none => stuck ""
def rowZ (zero : Array Value) (n : Nat) : Array Value := (Array.range n).map (zero[· % zero.size]!)
/-- What the second argument of an append yields. -/
inductive SrcV (es : Nat) (x : Value) (n : Nat) (news : List Value) (w : World) : Prop
  | slice (a : Addr) (c : Nat) (hx : x = .slice (some a) n c) (hl : news.length = n * es) (hc : ∀ j u, news[j]? = some u → w.cell? (a.add j) = some u) (h1 : ∀ u ∈ news, u.oneCell' = true)
  | nil (c : Nat) (hx : x = .slice none 0 c) (hn : n = 0) (hl : news = [])
inductive OldV (es : Nat) (base : Option Addr) (sLen : Nat) (olds : List Value) (w : World) : Prop
  | some (a : Addr) (hb : base = .some a) (hl : olds.length = sLen * es) (hc : ∀ j u, olds[j]? = .some u → w.cell? (a.add j) = .some u)
  | none (hb : base = .none) (hl : olds = [])
def AppC (elem es bytes : Nat) (zero : Array Value) (s x : Value) (K : Value → WP) : WP := fun w =>
  ∃ base sLen sCap n news, s = .slice base sLen sCap ∧ SrcV es x n news w ∧
    ((n = 0 ∧ sLen ≤ sCap ∧ K s w) ∨
     (∃ b off, base = some ⟨b, off, none⟩ ∧ sLen + n ≤ sCap ∧ (∀ j, j < news.length → (w.cell? ⟨b, off + sLen * es + j, none⟩).isSome = true) ∧ (∀ j, j < news.length → w.frozen? ⟨b, off + sLen * es + j, none⟩ = false) ∧
        K (.slice base (sLen + n) sCap) (w.setCells b (off + sLen * es) news)) ∨
     (∃ olds, OldV es base sLen olds w ∧ sCap < sLen + n ∧ ((sLen + n : Nat) : Int) ≤ 9223372036854775807 ∧ Builtin.nextslicecap (sLen + n) sCap * bytes ≤ 281474976710656 ∧
        ∀ c, sLen + n ≤ c → K (.slice (some ⟨w.heap.size, 0, none⟩) (sLen + n) c) (w.drew.alloc (.cells ((olds ++ news).toArray ++ Builtin.zeroCells zero (c - (sLen + n))) elem))))
def BSlC (elem size : Nat) (zero : Array Value) (len : Nat) (parts : Array (Nat × Value)) (K : Value → WP) : WP := fun w =>
  len * size ≤ 2 ^ 24 ∧ ∃ cells, Instr.fill (fun i => some (i * size, size)) ((Array.range (len * size)).map (zero[· % zero.size]!)) parts.toList = some cells ∧
    K (.slice (some ⟨w.heap.size, 0, none⟩) len len) (w.alloc (.cells cells elem))
def SlC (size : Nat) (x : Value) (lo hi : Option Value) (K : Value → WP) : WP := fun w =>
  ∃ (a : Option Addr) (len cap l h : Nat), x = .slice a len cap ∧ (match hi with | none => h = len | some v => ∃ k i, v = .int k i ∧ 0 ≤ i ∧ i ≤ (cap : Int) ∧ h = i.toNat) ∧
    (match lo with | none => l = 0 | some v => ∃ k i, v = .int k i ∧ 0 ≤ i ∧ i ≤ (h : Int) ∧ l = i.toNat) ∧
    K (.slice (if cap = l then a else a.map (·.add (l * size))) (h - l) (cap - l)) w
def MkSC (elem size bytes : Nat) (zero : Array Value) (l c : Value) (K : Value → WP) : WP := fun w =>
  ∃ kl kc n m, l = .int kl n ∧ c = .int kc m ∧ 0 ≤ n ∧ n ≤ m ∧ (bytes : Int) * m ≤ 281474976710656 ∧ m ≤ 9223372036854775807 ∧
    K (.slice (some ⟨w.heap.size, 0, none⟩) n.toNat m.toNat) (w.alloc (.cells (madeCells zero (m.toNat * size)) elem))
def clrS (zero : Array Value) (x : Value) : Sem Value := match x with
  | .slice none _ _ => pure (.tuple #[])
  | .slice (some a) n _ => do
    if n = 0 then pure () else storeCells a (Builtin.zeroCells zero n).toList
    pure (.tuple #[])
  | _ => stuck ""
def ptrEq : Value → Value → Option Bool
  | .pointer none, .pointer b => some b.isNone
  | .pointer (some _), .pointer none => some false
  | .pointer (some a), .pointer (some b) => if a.block == b.block then some (a == b) else none
  | _, _ => none
/-- Values of a type whose cells are all numbers. -/
def intsEq : List Value → List Value → Option Bool
  | [], [] => some true
  | .int k a :: r, .int k' b :: r' => if k = k' then (intsEq r r').map (fun t => a == b && t) else none
  | _, _ => none
def EqB (neg : Bool) (x y : Value) (K : Value → WP) : WP := fun w => ∃ a b, x = .bool a ∧ y = .bool b ∧ K (.bool (cond neg (!(a == b)) (a == b))) w
def EqP (neg : Bool) (x y : Value) (K : Value → WP) : WP := fun w => ∃ b, ptrEq x y = some b ∧ K (.bool (cond neg (!b) b)) w
def lenV (P : Program) (ats : Array TypeId) (ty : TypeId) (args : Array Value) : List TypeId → List Value → (Value → WP) → WP
  | t :: _, x :: _, K => (match P.underlying t with
    | some (.slice _) => LenS x K
    | _ => Ex P (Builtin.len_ ats ty args) K)
  | _, _, K => Ex P (Builtin.len_ ats ty args) K
def EqS (n : Nat) (neg : Bool) (x y : Value) (K : Value → WP) : WP := fun w => ∃ (xs ys : Array Value) (b : Bool), x = .agg xs ∧ y = .agg ys ∧ xs.size = n ∧ ys.size = n ∧ intsEq xs.toList ys.toList = some b ∧ K (.bool (cond neg (!b) b)) w
/-- A call of a function value. -/
def FnV (P : Program) (f : Value) (args : Array Value) (K : Value → WP) : WP := fun w =>
  match f with
  | .func (.func k) first caps => ((∀ args w, (callFunc k args).run P w = .ok (.enter k args) w) ∧ Cl P k (first ++ args ++ caps) K w) ∨ (∃ v w', (callFunc k (first ++ args ++ caps)).run P w = .ok (.value v) w' ∧ K v w')
  | .func (.yield l) first caps => ∃ f tmps assign body, (Instr.yield l (first ++ args)).run P w = .ok (.round l f tmps assign body) w ∧ caps = caps ∧
      RoundIn (FR none) 0 P l f tmps assign body w fun e w' => ∃ v, e = .returned v ∧ K v w'
  | _ => False
/-- Tall: the kernel unfolds what is taller first, so that what a code asks is worked out ahead of the printed reading (in which a call's unfolding holds its sequel twice). -/
def Tall : Prop := ∀ (P : Program) (v : Value) (a : Array Value) (K : Value → WP) (w : World), FnV P v a K w ∧ AppC 0 0 0 a v v K w ∧ NilC v K w
def condW (b : Bool) (x y : WP) : WP := let _t := Tall; match b with | true => x | false => y
theorem condW_eq (b : Bool) (x y : WP) : condW b x y = cond b x y := by cases b <;> rfl
theorem condW_false (x y : WP) : condW false x y = y := condW_eq false x y
theorem condW_true (x y : WP) : condW true x y = x := condW_eq true x y
def Grd (x : Value) (b : Bool) (t e : WP) : WP := fun w => ∃ c, x = .bool c ∧ (c = b → t w) ∧ (c = (!b) → e w)
/-- A guard, decided at once where its value stands written out. -/
def GrdW (x : SV) (b : Bool) (t e u : WP) : WP := let _t := Tall; match x.k with
  | .tt => cond b t e
  | .ff => cond b e t
  | .un => u
  | .unk => Grd x.v b t e
def Cnd (x : Value) (t e : WP) : WP := fun w => ∃ c, x = .bool c ∧ (c = true → t w) ∧ (c = false → e w)
def CndW (x : SV) (t e : WP) : WP := let _t := Tall; match x.k with
  | .tt => t
  | .ff => e
  | _ => Cnd x.v t e
def PickW (c a b : SV) (K : SV → WP) : WP := let _t := Tall; match c.k with
  | .tt => K a
  | .ff => K b
  | _ => Pick c.v a.v b.v fun v => K (dy v)

def evs (ρ : Env) (xs : Array Operand) : Array Value := (xs.toList.map (ev ρ)).toArray
theorem evs_eq (ρ : Env) (xs : Array Operand) : evs ρ xs = xs.map (ev ρ) := by unfold evs; rw [← Array.toList_map]
def evp (ρ : Env) (xs : Array (Nat × Operand)) : Array (Nat × Value) := (xs.toList.map fun p => (p.1, ev ρ p.2)).toArray
theorem evp_eq (ρ : Env) (xs : Array (Nat × Operand)) : evp ρ xs = xs.map fun (i, x) => (i, ev ρ x) := by unfold evp; rw [← Array.toList_map]
def placesOf (P : Program) (fs : List Field) : List (Nat × Nat) := fs.map fun f => (f.offset, P.cellsOf f.type)
def knownAll (P : Program) : List Field → Bool
  | [] => true
  | f :: r => match P.info? f.type with | some _ => knownAll P r | none => false
def bldV (P : Program) (t : TypeId) (parts : Array (Nat × Value)) (K : Value → WP) : WP :=
  match P.underlying t with
  | some (.struct fs) => cond (knownAll P fs.toList) (match P.info? t with
    | some i => match i.zero with
      | some z => Ex P (bldS z.cells (placesOf P fs.toList) parts) K
      | none => fun _ => False
    | none => fun _ => False) (fun _ => False)
  | _ => Ex P (Instr.build t parts) K
def elemV (P : Program) (t : TypeId) (C : TypeId → TypeInfo → Value → WP) : WP :=
  match P.underlying t with
  | some (.slice e) => match P.info? e with
    | some i => match i.zero with
      | some z => C e i z
      | none => fun _ => False
    | none => fun _ => False
  | _ => fun _ => False
def isSl (P : Program) (t : TypeId) : Bool := match P.underlying t with | some (.slice _) => true | _ => false
def appV (P : Program) (ats : Array TypeId) (ty : TypeId) (args : Array Value) : List TypeId → List Value → (Value → WP) → WP
  | [t, t'], [s, x], K => condW (isSl P t') (elemV P t fun e i z => AppC e i.size i.bytes z.cells s x K) (Ex P (Builtin.append_ ats ty args) K)
  | _, _, K => Ex P (Builtin.append_ ats ty args) K
def slcV (P : Program) (t : TypeId) (x : Value) (lo hi mx : Option Value) (K : Value → WP) : WP :=
  match P.underlying t with
  | some (.slice e) => (match mx with | none => (match P.info? e with | some i => SlC i.size x lo hi K | none => fun _ => False) | some _ => Ex P (Instr.sliceAt t x lo hi mx) K)
  | _ => Ex P (Instr.sliceAt t x lo hi mx) K
def clrV (P : Program) (ats : Array TypeId) (ty : TypeId) (args : Array Value) : List TypeId → List Value → (Value → WP) → WP
  | [t], [x], K => (match P.underlying t with
    | some (.slice _) => elemV P t fun _ _ z => Ex P (clrS z.cells x) K
    | _ => Ex P (Builtin.clear_ ats ty args) K)
  | _, _, K => Ex P (Builtin.clear_ ats ty args) K
def eqV (P : Program) (op : BinOp) (t : TypeId) (x y : Operand) (a b : Value) (K : Value → WP) : WP :=
  match op with
  | .eql => (match P.underlying t with
    | some .bool => EqB false a b K
    | some (.pointer e) => (match P.info? e with | some i => cond (Nat.beq i.size 0) (BinX P op t x y a b K) (EqP false a b K) | none => fun _ => False)
    | some (.struct fs) => cond (flatS P t fs) (EqS fs.size false a b K) (BinX P op t x y a b K)
    | _ => BinX P op t x y a b K)
  | .neq => (match P.underlying t with
    | some .bool => EqB true a b K
    | some (.pointer e) => (match P.info? e with | some i => cond (Nat.beq i.size 0) (BinX P op t x y a b K) (EqP true a b K) | none => fun _ => False)
    | some (.struct fs) => cond (flatS P t fs) (EqS fs.size true a b K) (BinX P op t x y a b K)
    | _ => BinX P op t x y a b K)
  | op => BinX P op t x y a b K
/-- What an operation asks, over an environment; what it yields goes to K. -/
def OpV (P : Program) (o : Oper) (ρ : Env) (KS : SV → WP) : WP :=
  let K : Value → WP := fun v => KS (dy v)
  match o.op with
  | .move x => KS (evS ρ x)
  | .assign x => KS (evS ρ x)
  | .pick c a b => PickW (evS ρ c) (evS ρ a) (evS ρ b) KS
  | .alloc t => match P.info? t with
    | some i => match i.zero with
      | some z => New t z.cells K
      | none => fun _ => False
    | none => fun _ => False
  | .box t x => New t (ev ρ x).cells K
  | .build t parts => bldV P t (evp ρ parts) K
  | .buildSlice t len parts => elemV P t fun e i z => BSlC e i.size z.cells len (evp ρ parts) K
  | .load t a => match P.underlying t with
    | some (.struct _) | some (.array _ _) => (match P.info? t with | some i => LdN i.size (ev ρ a) K | none => fun _ => False)
    | some _ => Ld1 (ev ρ a) K
    | none => fun _ => False
  | .store t a x => match P.info? t with
    | some i => St i.size (ev ρ a) (ev ρ x) K
    | none => fun _ => False
  | .nilCheck x => NilC (ev ρ x) K
  | .binOp op t x y _ => match P.underlying t with
    | some (.int _) => BinI op (ev ρ x) (ev ρ y) K
    | _ => eqV P op t x y (ev ρ x) (ev ρ y) K
  | .unOp op _ x => Un op (ev ρ x) K
  | .convert src dst x => match P.underlying src, P.underlying dst with
    | some (.int _), some (.int k) => ConvI k (ev ρ x) K
    | _, _ => Ex P (convert src dst (ev ρ x)) K
  | .makeInterface t x => Ex P (Instr.makeInterface t (ev ρ x)) K
  | .makeFunc fn first captured => K (.func fn (evs ρ first) (evs ρ captured))
  | .makeMap t r => Ex P (Instr.makeMap t (r.map (ev ρ))) K
  | .makeSlice t l c => elemV P t fun e i z => MkSC e i.size i.bytes z.cells (ev ρ l) (ev ρ c) K
  | .slice t x lo hi mx => slcV P t (ev ρ x) (lo.map (ev ρ)) (hi.map (ev ρ)) (mx.map (ev ρ)) K
  | .fieldAddr s x f => match P.underlying s with
    | some (.struct fields) => (match fields[f]? with
      | some fl => (match P.info? fl.type with
        | some i => cond (Nat.beq i.size 0) (Ex P (Instr.fieldAt s (ev ρ x) f) K) (FA (ev ρ x) fl.offset K)
        | none => fun _ => False)
      | none => fun _ => False)
    | _ => fun _ => False
  | .field t x f => Ex P (Instr.field t (ev ρ x) f) K
  | .indexAddr t x ix => match P.underlying t with
    | some (.slice e) => (match P.info? e with | some i => IA i.size (ev ρ x) (ev ρ ix) K | none => fun _ => False)
    | some (.array n e) => (match P.info? e with | some i => IAr n i.size (ev ρ x) (ev ρ ix) K | none => fun _ => False)
    | _ => fun _ => False
  | .index t x ix => Ex P (Instr.index t (ev ρ x) (ev ρ ix)) K
  | .lookup t x ix ok => Ex P (Instr.lookup t (ev ρ x) (ev ρ ix) ok) K
  | .mapUpdate t m k x => Ex P (do Instr.mapUpdate t (ev ρ m) (ev ρ k) (ev ρ x); pure undef) K
  | .insert t m k x => Ex P (do Instr.mapUpdate t (ev ρ m) (ev ρ k) (ev ρ x); pure undef) K
  | .mapEntry t m k => Ex P (Instr.mapEntry t (ev ρ m) (ev ρ k)) K
  | .entryStore t m s x => Ex P (do Instr.entryStore t (ev ρ m) (ev ρ s) (ev ρ x); pure undef) K
  | .range t x => Ex P (Instr.range t (ev ρ x)) K
  | .next it isString => Ex P (Instr.next (ev ρ it) isString o.type) K
  | .entry it => Ex P (Instr.entry (ev ρ it)) K
  | .typeAssert x xType asserted ok => Ex P (Instr.typeAssert (ev ρ x) xType asserted ok) K
  | .extract t ix => Ext (ev ρ t) ix K
  | .call c => match c.callee with
    | .value f => FnV P (ev ρ f) (evs ρ c.args) K
    | .builtin .len => lenV P c.argTypes o.type (evs ρ c.args) (c.argTypes.toList) (c.args.toList.map (ev ρ)) K
    | .builtin .append => appV P c.argTypes o.type (evs ρ c.args) (c.argTypes.toList) (c.args.toList.map (ev ρ)) K
    | .builtin .cap => Ex P (Builtin.cap_ c.argTypes o.type (evs ρ c.args)) K
    | .builtin .clear => clrV P c.argTypes o.type (evs ρ c.args) (c.argTypes.toList) (c.args.toList.map (ev ρ)) K
    | .builtin .copy => Ex P (Builtin.copy_ c.argTypes o.type (evs ρ c.args)) K
    | .builtin .delete => Ex P (Builtin.delete_ c.argTypes o.type (evs ρ c.args)) K
    | .builtin .max => Ex P (Builtin.max_ c.argTypes o.type (evs ρ c.args)) K
    | .builtin .min => Ex P (Builtin.min_ c.argTypes o.type (evs ρ c.args)) K
    | _ => fun _ => False
  | _ => fun _ => False

/-! ### That suffices -/
section
variable {P : Program} {o : Oper} {ρ : Env} {K : Value → WP} {w : World} {a : Act} {next : Act → World → Prop} {Q : Exit → Act → World → Prop} {ro : Option Nat}

theorem Ex.mk {s : Sem Value} {v : Value} {w' : World} (h : s.run P w = .ok v w') (k : K v w') : Ex P s K w := ⟨v, w', h, k⟩
theorem Ex.up {s : Sem Value} (h : Ex P s K w) (hk : ∀ v w', K v w' → next (a.put o.dst v) w') :
    o.uponIn (FR ro) 0 P a next Q ((do let x ← s; pure (Next.value x) : Sem Next).run P w) := by
  obtain ⟨v, w', hr, hv⟩ := h
  rw [Sem.run_bind, hr]
  exact hk v w' hv
theorem Ex.upU {s : Sem Unit} (h : Ex P (do s; pure undef) K w) (hk : ∀ v w', K v w' → next (a.put o.dst v) w') :
    o.uponIn (FR ro) 0 P a next Q ((do s; pure Next.skip : Sem Next).run P w) := by
  obtain ⟨v, w', hr, hv⟩ := h
  rw [Sem.run_bind] at hr ⊢
  cases hs : s.run P w with
  | ok u w1 =>
    rw [hs] at hr
    simp only [Result.andThen_ok, Sem.run_pure, Result.ok.injEq] at hr
    obtain ⟨rfl, rfl⟩ := hr
    exact hk _ _ hv
  | halt h w1 => rw [hs] at hr; cases hr
theorem run_underlying {t : TypeId} {d : TypeDesc} (h : P.underlying t = some d) (w : World) : (underlying t).run P w = .ok d w := by
  simp [underlying, h]
theorem run_typeInfo {t : TypeId} {i : TypeInfo} (h : P.info? t = some i) (w : World) : (typeInfo t).run P w = .ok i w := by
  simp [typeInfo, h]
theorem run_sizeOf {t : TypeId} {i : TypeInfo} (h : P.info? t = some i) (w : World) : (sizeOf t).run P w = .ok i.size w := by
  simp [sizeOf, run_typeInfo h]
def dAgg : TypeDesc → Bool
  | .struct _ | .array _ _ => true
  | _ => false
theorem run_isAgg {t : TypeId} {d : TypeDesc} (h : P.underlying t = some d) (w : World) : (isAgg t).run P w = .ok (dAgg d) w := by
  simp only [isAgg, Sem.run_bind, run_underlying h, Result.andThen_ok]
  cases d <;> rfl
theorem run_cells {p : Addr} {vs : List Value} (h : ∀ j v, vs[j]? = some v → w.cell? (p.add j) = some v) :
    (loadCells p vs.length).run P w = .ok vs.toArray w := run_loadCells_list w p vs h
theorem run_stCells {p : Addr} : ∀ (vs : List Value) (i : Nat) (w : World), Storable w p vs i → (storeCells p vs i).run P w = .ok () (stCells p vs i w)
  | [], i, w, _ => rfl
  | v :: r, i, w, h => by
    obtain ⟨h1, ⟨u, h2⟩, h3⟩ := h 0 v rfl
    simp only [Nat.add_zero] at h2 h3
    unfold storeCells
    rw [Sem.run_bind, run_store P w _ v .plain h1]
    simp only [h2, h3, Result.andThen_ok, Bool.false_eq_true, if_false]
    refine run_stCells r (i + 1) _ fun j x hj => ?_
    obtain ⟨g1, ⟨y, g2⟩, g3⟩ := h (j + 1) x (by simpa using hj)
    rw [show i + (j + 1) = i + 1 + j from by omega] at g2 g3
    refine ⟨g1, ?_, by rw [World.frozen?_setCell]; exact g3⟩
    by_cases e : p.add i = p.add (i + 1 + j)
    · rw [← e]; exact ⟨v, World.cell?_setCell_same _ _ _ h2⟩
    · exact ⟨y, by rw [World.cell?_setCell_other _ _ _ _ e]; exact g2⟩

theorem intBin_sound {op : BinOp} {k k' : IntKind} {x y : Int} {v : Value} (h : intBin op k x k' y = some v) (t : TypeId) (w : World) : (binOp op t (.int k x) (.int k' y)).run P w = .ok v w := by
  cases op <;> simp only [intBin] at h <;> simp only [binOp] <;>
    first
    | (split at h
       · cases h
       · rename_i hb; simp only [Option.some.injEq] at h; subst h; simp [Op.shift, hb])
    | (split at h
       · rename_i hk
         simp only [Option.some.injEq] at h; subst h
         first
         | (obtain ⟨rfl, hy⟩ := hk; simp [Op.intDiv, hy])
         | (subst hk; simp [Op.intArith, Op.intBits, Op.intCmp])
       · cases h)
theorem eqGuard_int {op : BinOp} {t : TypeId} {ox oy : Operand} {k k' : IntKind} {x y : Int} (w : World) : (eqGuard op t ox oy (.int k x) (.int k' y)).run P w = .ok () w := by
  unfold eqGuard
  split <;> rfl

theorem elemV_out {t : TypeId} {C : TypeId → TypeInfo → Value → WP} (h : elemV P t C w) : ∃ e i z, P.underlying t = some (.slice e) ∧ P.info? e = some i ∧ i.zero = some z ∧ C e i z w := by
  unfold elemV at h
  cases hu : P.underlying t with
  | none => rw [hu] at h; exact h.elim
  | some d =>
    rw [hu] at h
    cases d <;> (try exact h.elim)
    rename_i e
    dsimp only at h
    cases hi : P.info? e with
    | none => rw [hi] at h; exact h.elim
    | some i =>
      rw [hi] at h
      dsimp only at h
      cases hz : i.zero with
      | none => rw [hz] at h; exact h.elim
      | some z => rw [hz] at h; exact ⟨e, i, z, rfl, hi, hz, h⟩
theorem run_zeroValue {t : TypeId} {i : TypeInfo} {z : Value} (h : P.info? t = some i) (hz : i.zero = some z) (w : World) : (zeroValue t).run P w = .ok z w := by
  simp [zeroValue, run_typeInfo h, hz]
theorem Ex.of_run {s s' : Sem Value} (h : Ex P s K w) (e : ∀ v w', s.run P w = .ok v w' → s'.run P w = .ok v w') : Ex P s' K w := by
  obtain ⟨v, w', hr, hv⟩ := h
  exact ⟨v, w', e v w' hr, hv⟩
theorem places_run : ∀ (fs : List Field) (w : World), knownAll P fs = true → (fs.mapM fun f => (do pure (f.offset, ← sizeOf f.type) : Sem (Nat × Nat))).run P w = .ok (placesOf P fs) w
  | [], w, _ => rfl
  | f :: r, w, h => by
    unfold knownAll at h
    cases hi : P.info? f.type with
    | none => rw [hi] at h; cases h
    | some i =>
      rw [hi] at h
      rw [List.mapM_cons]
      simp only [Sem.run_bind, run_sizeOf hi, Sem.run_pure, Result.andThen_ok, places_run r w h]
      simp [placesOf, Program.cellsOf, hi]
theorem bldV_ex {t : TypeId} {parts : Array (Nat × Value)} (h : bldV P t parts K w) : Ex P (Instr.build t parts) K w := by
  unfold bldV at h
  cases hu : P.underlying t with
  | none => rw [hu] at h; exact h
  | some d =>
    rw [hu] at h
    cases d <;> (try exact h)
    rename_i fs
    dsimp only at h
    cases hk : knownAll P fs.toList with
    | false => rw [hk] at h; exact h.elim
    | true =>
      rw [hk] at h
      simp only [cond_true] at h
      cases hi : P.info? t with
      | none => rw [hi] at h; exact h.elim
      | some i =>
        rw [hi] at h
        dsimp only at h
        cases hz : i.zero with
        | none => rw [hz] at h; exact h.elim
        | some z =>
          rw [hz] at h
          dsimp only at h
          refine Ex.of_run h fun v w' hr => ?_
          have hp : (fs.mapM fun f => (do pure (f.offset, ← sizeOf f.type) : Sem (Nat × Nat))).run P w = .ok (placesOf P fs.toList).toArray w := by
            rw [← Array.toArray_toList (xs := fs), List.mapM_toArray, Sem.run_map, places_run _ _ (by simpa using hk)]
            simp
          unfold bldS at hr
          simp only [Instr.build, Sem.run_bind, run_zeroValue hi hz, run_underlying hu, Result.andThen_ok, hp]
          have : (fun x : Nat => (placesOf P fs.toList).toArray[x]?) = fun i => (placesOf P fs.toList)[i]? := by funext i; simp
          rw [this]
          cases hf : Instr.fill (fun i => (placesOf P fs.toList)[i]?) z.cells parts.toList with
          | none => rw [hf] at hr; simp at hr
          | some cs => rw [hf] at hr; exact hr
theorem BSlC_ex {t e : TypeId} {i : TypeInfo} {z : Value} {len : Nat} {parts : Array (Nat × Value)} (hu : P.underlying t = some (.slice e)) (hi : P.info? e = some i) (hz : i.zero = some z)
    (h : BSlC e i.size z.cells len parts K w) : Ex P (Instr.buildSlice t len parts) K w := by
  obtain ⟨hb, cells, hf, hk⟩ := h
  by_cases h0 : len * i.size = 0
  · refine ⟨_, _, ?_, hk⟩
    rw [h0] at hf
    have hf' : Instr.fill (fun j => some (j * i.size, i.size)) (#[] : Array Value) parts.toList = some cells := by
      have e : (Array.range 0).map (fun x => z.cells[x % z.cells.size]!) = (#[] : Array Value) := by simp
      rw [← e]; exact hf
    have e0 : Array.range 0 = #[] := by simp
    simp [Instr.buildSlice, run_underlying hu, sizeOf, typeInfo, hi, h0, newRow, hf', e0]
  · exact ⟨_, _, run_buildSlice w t e len parts cells i z hu hi hz (by omega) h0 hf, hk⟩
theorem SrcV.src {es : Nat} {x : Value} {n : Nat} {news : List Value} {tx : TypeId} (h : SrcV es x n news w) (hk : ∃ e', P.underlying tx = some (.slice e')) : Src P es tx x n news w := by
  obtain ⟨e', hk⟩ := hk
  rcases h with ⟨a, c, rfl, hl, hc, h1⟩ | ⟨c, rfl, rfl, rfl⟩
  · exact Src.ofSlice w hk a n c news hl hc h1
  · exact Src.ofNil w hk c
theorem AppC_ex {t t' e e' : TypeId} {i : TypeInfo} {z s x : Value} {ty : TypeId} (hu : P.underlying t = some (.slice e)) (hi : P.info? e = some i) (hz : i.zero = some z) (hn : P.underlying t' = some (.slice e'))
    (h : AppC e i.size i.bytes z.cells s x K w) : Ex P (Builtin.append_ #[t, t'] ty #[s, x]) K w := by
  obtain ⟨base, sLen, sCap, n, news, rfl, hsrc, h⟩ := h
  have hs := hsrc.src (P := P) (tx := t') ⟨e', hn⟩
  rcases h with ⟨rfl, hle, hk⟩ | ⟨b, off, rfl, hle, hc, hf, hk⟩ | ⟨olds, ho, hg, h63, h48, hk⟩
  · have : news = [] := by
      have := hs.newsLen
      simpa using this
    subst this
    exact ⟨_, _, run_append_nothing w t t' ty e i hu hi base sLen sCap hle x hs, hk⟩
  · exact ⟨_, _, run_append_room_src w t t' ty e i hu hi b off sLen sCap x n news hs hle hc hf, hk⟩
  · refine ⟨_, _, run_append_grow_src w t t' ty e i z hu hi hz base sLen sCap olds ?_ x n news hs hg h63 h48, hk _ ?_⟩
    · rcases ho with ⟨a, rfl, hl, hc⟩ | ⟨rfl, rfl⟩
      · exact run_firstCells_some w.drew i.size sLen a sLen sCap olds hl (by simpa using hc)
      · exact run_firstCells_none w.drew i.size sLen sLen sCap
    · unfold grownCap
      simp only [Question.cut]
      omega
theorem SlC_ex {t e : TypeId} {i : TypeInfo} {x : Value} {lo hi : Option Value} (hu : P.underlying t = some (.slice e)) (hi' : P.info? e = some i) (h : SlC i.size x lo hi K w) : Ex P (Instr.sliceAt t x lo hi none) K w := by
  obtain ⟨a, len, cap, l, h, rfl, hh, hl, hk⟩ := h
  refine ⟨_, _, ?_, hk⟩
  have hb : (Instr.sliceBounds true len cap lo hi none).run P w = .ok (l, h, cap) w := by
    cases hi with
    | none =>
      subst hh
      cases lo with
      | none => subst hl; rfl
      | some v =>
        obtain ⟨k, i, rfl, h0, h1, rfl⟩ := hl
        simp [Instr.sliceBounds, Instr.sliceBound, asIntOf, h0, h1]
    | some v =>
      obtain ⟨k, i, rfl, h0, h1, rfl⟩ := hh
      cases lo with
      | none => subst hl; simp [Instr.sliceBounds, Instr.sliceBound, asIntOf, h0, h1]
      | some v =>
        obtain ⟨k, j, rfl, h0', h1', rfl⟩ := hl
        have h2' : j ≤ max i 0 := by omega
        simp [Instr.sliceBounds, Instr.sliceBound, asIntOf, h0, h1, h0', h2']
  simp only [Instr.sliceAt, Instr.slice, Sem.run_bind, run_underlying hu, Result.andThen_ok, hb, run_sizeOf hi', Sem.run_pure]
theorem MkSC_ex {t e : TypeId} {i : TypeInfo} {z l c : Value} (hu : P.underlying t = some (.slice e)) (hi : P.info? e = some i) (hz : i.zero = some z)
    (h : MkSC e i.size i.bytes z.cells l c K w) : Ex P (Instr.makeSlice t l c) K w := by
  obtain ⟨kl, kc, n, m, rfl, rfl, h0, hle, hb, h63, hk⟩ := h
  exact ⟨_, _, run_make w t e i z hu hi hz kl kc n m h0 hle hb h63, hk⟩
theorem EqB_ex {op : BinOp} {neg : Bool} {t : TypeId} {ox oy : Operand} {x y : Value} (hop : op = (if neg then .neq else .eql)) (hu : P.underlying t = some .bool) (h : EqB neg x y K w) : BinX P op t ox oy x y K w := by
  obtain ⟨a, b, rfl, rfl, hk⟩ := h
  have hg : ∀ op, (eqGuard op t ox oy (.bool a) (.bool b)).run P w = .ok () w := fun op => by unfold eqGuard; split <;> rfl
  subst hop
  cases neg
  · exact ⟨_, w, by rw [Sem.run_bind, hg]; exact run_eql_bool w t a b hu, hk⟩
  · exact ⟨_, w, by rw [Sem.run_bind, hg]; exact run_neq_bool w t a b hu, hk⟩
theorem equalIn_ptr {d : Nat} {t e : TypeId} {i : TypeInfo} {x y : Value} {b : Bool} (hu : P.underlying t = some (.pointer e)) (hi : P.info? e = some i) (hsz : i.size ≠ 0) (hb : ptrEq x y = some b) : (Op.equalIn (d + 1) t x y).run P w = .ok b w := by
  unfold ptrEq at hb
  split at hb
  · cases hb; simp [Op.equalIn, run_underlying hu]
  · cases hb; simp [Op.equalIn, run_underlying hu]
  · split at hb
    · rename_i p q hpq
      cases hb
      have hpq' : p.block = q.block := by simpa using hpq
      simp [Op.equalIn, run_underlying hu, run_sizeOf hi, hsz, sameAddr, hpq']
    · cases hb
  · cases hb
theorem EqP_ex {op : BinOp} {neg : Bool} {t e : TypeId} {i : TypeInfo} {ox oy : Operand} {x y : Value} (hop : op = (if neg then .neq else .eql)) (hu : P.underlying t = some (.pointer e)) (hi : P.info? e = some i) (hsz : i.size ≠ 0) (h : EqP neg x y K w) : BinX P op t ox oy x y K w := by
  obtain ⟨b, hb, hk⟩ := h
  have he : (Op.equal t x y).run P w = .ok b w := equalIn_ptr (d := 9999) hu hi hsz hb
  have hx : ∃ p, x = .pointer p := by
    cases x with
    | pointer p => exact ⟨p, rfl⟩
    | _ => cases hb
  have hy : ∃ q, y = .pointer q := by
    obtain ⟨p, rfl⟩ := hx
    cases y with
    | pointer q => exact ⟨q, rfl⟩
    | _ => cases p <;> cases hb
  obtain ⟨p, rfl⟩ := hx
  obtain ⟨q, rfl⟩ := hy
  have hg : ∀ op, (eqGuard op t ox oy (.pointer p) (.pointer q)).run P w = .ok () w := fun op => by unfold eqGuard; split <;> rfl
  subst hop
  cases neg
  · refine ⟨_, w, ?_, hk⟩
    rw [Sem.run_bind, hg]
    simp only [Result.andThen_ok, binOp, if_false, Bool.false_eq_true]
    rw [Sem.run_bind, he]; rfl
  · refine ⟨_, w, ?_, hk⟩
    rw [Sem.run_bind, hg]
    simp only [Result.andThen_ok, binOp, if_true]
    rw [Sem.run_bind, he]; rfl
theorem eqFields_ints {d : Nat} : ∀ (fs : List Field) (k : Nat) (xs ys : Array Value) (b : Bool), flatFs P fs k = true → (xs.toList.drop k).length = fs.length → (ys.toList.drop k).length = fs.length → intsEq (xs.toList.drop k) (ys.toList.drop k) = some b →
    (Op.eqFields (d + 1) xs ys fs).run P w = .ok b w
  | [], k, xs, ys, b, _, hx, hy, h => by
    have h1 := List.length_eq_zero_iff.1 hx
    have h2 := List.length_eq_zero_iff.1 hy
    rw [h1, h2] at h
    cases h
    rfl
  | f :: r, k, xs, ys, b, hf, hx, hy, h => by
    simp only [flatFs] at hf
    cases hc1 : Nat.beq f.offset k with
    | false => rw [hc1] at hf; cases hf
    | true =>
      rw [hc1] at hf
      simp only [cond_true] at hf
      cases hn : (f.name != "_") with
      | false => rw [hn] at hf; cases hf
      | true =>
        rw [hn] at hf
        simp only [cond_true] at hf
        have hoff := Nat.eq_of_beq_eq_true hc1
        cases hu : P.underlying f.type with
        | none => rw [hu] at hf; cases hf
        | some dd =>
          rw [hu] at hf
          cases dd <;> (try cases hf)
          rename_i kk
          dsimp only at hf
          obtain ⟨x, hx'⟩ : ∃ x, xs.toList.drop k = x :: xs.toList.drop (k + 1) := by
            have : k < xs.toList.length := by
              rw [List.length_drop, List.length_cons] at hx; omega
            exact ⟨_, List.drop_eq_getElem_cons this⟩
          obtain ⟨y, hy'⟩ : ∃ y, ys.toList.drop k = y :: ys.toList.drop (k + 1) := by
            have : k < ys.toList.length := by
              rw [List.length_drop, List.length_cons] at hy; omega
            exact ⟨_, List.drop_eq_getElem_cons this⟩
          rw [hx', hy'] at h
          rw [hx', List.length_cons, List.length_cons] at hx
          rw [hy', List.length_cons, List.length_cons] at hy
          have gx : xs[k]? = some x := by
            have := congrArg (fun l => l[0]?) hx'
            simpa [List.getElem?_drop] using this
          have gy : ys[k]? = some y := by
            have := congrArg (fun l => l[0]?) hy'
            simpa [List.getElem?_drop] using this
          cases x <;> (try (simp [intsEq] at h; done))
          cases y <;> (try (simp [intsEq] at h; done))
          rename_i ka a kb b'
          simp only [intsEq] at h
          by_cases hk : ka = kb
          · subst hk
            rw [if_pos rfl] at h
            cases hr : intsEq (xs.toList.drop (k + 1)) (ys.toList.drop (k + 1)) with
            | none => rw [hr] at h; cases h
            | some t =>
              rw [hr] at h
              simp only [Option.map_some, Option.some.injEq] at h
              have ih := eqFields_ints (d := d) r (k + 1) xs ys t hf (by omega) (by omega) hr
              have hp : ∀ (zs : Array Value) (z : Value), zs[k]? = some z → (part f.type zs f.offset).run P w = .ok z w := by
                intro zs z hz
                unfold part
                rw [Sem.run_bind, run_isAgg hu, hoff]
                simp [dAgg, hz]
              have hne : f.name ≠ "_" := by simpa using hn
              simp only [Op.eqFields, hne, ne_eq, not_false_eq_true, if_true, Sem.run_bind, hp xs _ gx, hp ys _ gy, Result.andThen_ok, run_equalIn_int w d f.type ka _ a b' hu]
              cases hab : (a == b') with
              | false => rw [hab] at h; simp at h; subst h; rfl
              | true => rw [hab] at h; simp at h; subst h; simpa using ih
          · rw [if_neg hk] at h; cases h
theorem EqS_ex {op : BinOp} {neg : Bool} {t : TypeId} {fs : Array Field} {ox oy : Operand} {x y : Value} (hop : op = (if neg then .neq else .eql)) (hu : P.underlying t = some (.struct fs)) (hok : flatS P t fs = true) (h : EqS fs.size neg x y K w) : BinX P op t ox oy x y K w := by
  obtain ⟨xs, ys, b, rfl, rfl, hlx, hly, hb, hk⟩ := h
  unfold flatS at hok
  cases h1 : flatFs P fs.toList 0 with
  | false => rw [h1] at hok; cases hok
  | true =>
    rw [h1] at hok
    simp only [cond_true] at hok
    cases h2 : P.stoodInHeld t with
    | true => rw [h2] at hok; cases hok
    | false =>
      rw [h2] at hok
      simp only [cond_false] at hok
      have h3 : P.eqGuardType P.depth t = false := by simpa using hok
      have hfo : P.fieldsOf t = fs := by simp [Program.fieldsOf, hu]
      have he : (Op.equalIn 10000 t (.agg xs) (.agg ys)).run P w = .ok b w := by
        rw [show (10000 : Nat) = 9999 + 1 from rfl, run_equalIn_struct w 9999 t xs ys (by rw [hfo]; exact hu) h2, hfo]
        exact eqFields_ints (d := 9998) fs.toList 0 xs ys b h1 (by simpa using hlx) (by simpa using hly) (by simpa using hb)
      subst hop
      cases neg
      · refine ⟨_, w, ?_, hk⟩
        rw [Sem.run_bind, run_eqGuard_agg w _ t _ _ _ _ h3]
        simp only [Result.andThen_ok, if_false, Bool.false_eq_true]
        rw [run_eql_struct, he]; rfl
      · refine ⟨_, w, ?_, hk⟩
        rw [Sem.run_bind, run_eqGuard_agg w _ t _ _ _ _ h3]
        simp only [Result.andThen_ok, if_true]
        rw [run_neq_struct, he]; rfl
theorem eqV_ex {op : BinOp} {t : TypeId} {ox oy : Operand} {x y : Value} (h : eqV P op t ox oy x y K w) : BinX P op t ox oy x y K w := by
  have key : ∀ (neg : Bool), op = (if neg then .neq else .eql) → (match P.underlying t with
    | some .bool => EqB neg x y K
    | some (.pointer e) => (match P.info? e with | some i => cond (Nat.beq i.size 0) (BinX P op t ox oy x y K) (EqP neg x y K) | none => fun _ => False)
    | some (.struct fs) => cond (flatS P t fs) (EqS fs.size neg x y K) (BinX P op t ox oy x y K)
    | _ => BinX P op t ox oy x y K) w → BinX P op t ox oy x y K w := by
    intro neg hop h
    cases hu : P.underlying t with
    | none => rw [hu] at h; exact h
    | some d =>
      rw [hu] at h
      cases d <;> (try exact h)
      case bool => exact EqB_ex hop hu h
      case pointer e =>
        dsimp only at h
        cases hi : P.info? e with
        | none => rw [hi] at h; exact h.elim
        | some i =>
          rw [hi] at h
          dsimp only at h
          cases hz : Nat.beq i.size 0 with
          | true => rw [hz] at h; exact h
          | false => rw [hz] at h; exact EqP_ex hop hu hi (Nat.ne_of_beq_eq_false hz) h
      case struct fs =>
        dsimp only at h
        cases hf : flatS P t fs with
        | false => rw [hf] at h; exact h
        | true => rw [hf] at h; exact EqS_ex hop hu hf h
  cases op <;> (try exact h)
  · exact key false rfl h
  · exact key true rfl h
theorem clrS_ex {t e : TypeId} {i : TypeInfo} {z x : Value} {ty : TypeId} (hu : P.underlying t = some (.slice e)) (hi : P.info? e = some i) (hz : i.zero = some z) (h : Ex P (clrS z.cells x) K w) : Ex P (Builtin.clear_ #[t] ty #[x]) K w := by
  refine Ex.of_run h fun v w' hr => ?_
  unfold clrS at hr
  cases x <;> (try (simp at hr; done))
  rename_i p n c
  cases p with
  | none => simpa [Builtin.clear_, run_underlying hu] using hr
  | some a =>
    cases n with
    | zero => simpa [Builtin.clear_, run_underlying hu] using hr
    | succ n => simpa [Builtin.clear_, run_underlying hu, run_zeroValue hi hz] using hr
theorem opOk_reads {n : Nat} {o : Oper} (h : opOk n o = true) : ∀ x ∈ o.op.operands, tmpsOk n (rdOf x) = true := by
  intro x hx
  have h1 : tmpsOk n (readsOf o) = true := by
    unfold opOk at h
    cases hh : tmpsOk n (readsOf o) <;> simp [hh] at h ⊢
  refine allB_iff.2 fun t ht => allB_iff.1 h1 t ?_
  exact List.mem_flatMap.2 ⟨x, by simpa using hx, ht⟩
theorem opOk_dst {n : Nat} {o : Oper} (h : opOk n o = true) : (match o.dst with | some d => Nat.blt d n | none => true) = true := by
  unfold opOk at h
  cases hh : tmpsOk n (readsOf o)
  · simp [hh] at h
  · rw [hh] at h; exact h

theorem opV_sound {KS : SV → WP} (hg : Gd ρ) (hok : ∀ x ∈ o.op.operands, a.eval x = ev ρ x) (hkS : ∀ s w', s.Good → KS s w' → next (a.put o.dst s.v) w') (h : OpV P o ρ KS w) :
    o.wpIn (FR ro) 0 P a w next Q := by
  have hk : ∀ v w', (fun v => KS (dy v)) v w' → next (a.put o.dst v) w' := fun v w' h => hkS (dy v) w' trivial h
  revert hk
  generalize hK : (fun v => KS (dy v)) = K
  intro hk
  refine ⟨fun f _ => FR_fn ro f, ?_⟩
  obtain ⟨dst, op, ty, pos, after, guard⟩ := o
  have hd : ∀ c, op ≠ .defer c := by rintro c rfl; exact h.elim
  have hs : ∀ cs b, op ≠ .select cs b := by rintro cs b rfl; exact h.elim
  rw [Oper.semAt_eq _ _ _ hd, execOp_congr (ρ' := ev ρ) _ hs hok]
  cases op <;> (try exact h.elim) <;> simp only [OpV, hK] at h <;> simp only [execOp]
  case move x => exact hkS _ _ (good_evS hg x) h
  case assign x => exact hkS _ _ (good_evS hg x) h
  case box t x => exact hk _ _ h
  case build t ps => rw [evp_eq] at h; exact Ex.up (bldV_ex h) hk
  case buildSlice t l ps =>
    rw [evp_eq] at h
    obtain ⟨e, i, z, hu, hi, hz, h⟩ := elemV_out h
    exact Ex.up (BSlC_ex hu hi hz h) hk
  case pick c x y =>
    have : ∃ b s, ev ρ c = .bool b ∧ s.Good ∧ s.v = (if b then ev ρ x else ev ρ y) ∧ KS s w := by
      have hc := good_evS hg c
      unfold PickW at h
      unfold ev
      revert h hc
      generalize evS ρ c = cv
      intro h hc
      obtain ⟨k, v⟩ := cv
      cases k with
      | tt => exact ⟨true, _, hc, good_evS hg x, rfl, h⟩
      | ff => exact ⟨false, _, hc, good_evS hg y, rfl, h⟩
      | unk =>
        cases v with
        | bool b => cases b <;> exact ⟨_, _, rfl, good_dy _, rfl, h⟩
        | _ => exact h.elim
      | un =>
        cases v with
        | bool b => cases b <;> exact ⟨_, _, rfl, good_dy _, rfl, h⟩
        | _ => exact h.elim
    obtain ⟨b, s, hb, hgs, hsv, hh⟩ := this
    simp only [hb, asBool, Sem.run_bind, Sem.run_pure, Result.andThen_ok]
    have := hkS s w hgs hh
    rw [hsv] at this
    cases b <;> exact this
  case alloc t =>
    cases hi : P.info? t with
    | none => rw [hi] at h; exact h.elim
    | some i =>
      rw [hi] at h
      dsimp only at h
      cases hz : i.zero with
      | none => rw [hz] at h; exact h.elim
      | some z =>
        rw [hz] at h
        simp only [Instr.alloc, zeroValue, Sem.run_bind, run_typeInfo hi, Result.andThen_ok, hz, Sem.run_pure, newVar, newRow, run_newObj]
        exact hk _ _ h
  case load t x =>
    have agg : ∀ d, P.underlying t = some d → dAgg d = true → ∀ i, P.info? t = some i → LdN i.size (ev ρ x) K w →
        ({ dst := dst, op := Op.load t x, type := ty, pos := pos, after := after, guard := guard } : Oper).uponIn (FR ro) 0 P a next Q ((do let x ← Instr.loadAt t (ev ρ x); pure (Next.value x) : Sem Next).run P w) := by
      intro d hd hag i hi h
      obtain ⟨p, vs, hp, hl, hc, hv⟩ := h
      simp only [hp, Instr.loadAt, Instr.sureAddr, loadVar, Sem.run_bind, Sem.run_pure, Result.andThen_ok, run_isAgg hd, hag, if_true, run_sizeOf hi, ← hl, run_cells hc]
      exact hk _ _ hv
    cases hd : P.underlying t with
    | none => rw [hd] at h; exact h.elim
    | some d =>
      rw [hd] at h
      have one : dAgg d = false → Ld1 (ev ρ x) K w →
          ({ dst := dst, op := Op.load t x, type := ty, pos := pos, after := after, guard := guard } : Oper).uponIn (FR ro) 0 P a next Q ((do let x ← Instr.loadAt t (ev ρ x); pure (Next.value x) : Sem Next).run P w) := by
        intro this h
        obtain ⟨p, v, hp, hc, hv⟩ := h
        simp only [hp, Instr.loadAt, Instr.sureAddr, loadVar, Sem.run_bind, Sem.run_pure, Result.andThen_ok, run_isAgg hd, this, Bool.false_eq_true, if_false, run_load, hc]
        exact hk _ _ hv
      cases d with
      | struct fs =>
        cases hi : P.info? t with
        | none => simp only [hi] at h
        | some i => simp only [hi] at h; exact agg _ hd rfl i hi h
      | array n e =>
        cases hi : P.info? t with
        | none => simp only [hi] at h
        | some i => simp only [hi] at h; exact agg _ hd rfl i hi h
      | _ => exact one rfl h
  case store t x y =>
    cases hi : P.info? t with
    | none => rw [hi] at h; exact h.elim
    | some i =>
      rw [hi] at h
      obtain ⟨p, hp, hs', hst, hv⟩ := h
      simp only [hp, Instr.storeAt, Instr.sureAddr, storeVar, Sem.run_bind, Sem.run_pure, Result.andThen_ok, run_sizeOf hi, hs', ne_eq, not_true_eq_false, if_false, run_stCells _ _ _ hst]
      exact hk _ _ hv
  case nilCheck x =>
    revert h; generalize ev ρ x = xv
    intro h
    cases xv with
    | pointer p => cases p with
      | none => exact h.elim
      | some p => exact hk _ _ h
    | func f first caps => cases f <;> first | exact h.elim | exact hk _ _ h
    | _ => exact h.elim
  case binOp op t x y yt =>
    have it : BinI op (ev ρ x) (ev ρ y) K w → ({ dst := dst, op := Op.binOp op t x y yt, type := ty, pos := pos, after := after, guard := guard } : Oper).uponIn (FR ro) 0 P a next Q
        ((do let x ← (do eqGuard op t x y (ev ρ x) (ev ρ y); binOp op t (ev ρ x) (ev ρ y)); pure (Next.value x) : Sem Next).run P w) := by
      intro h
      obtain ⟨k, m, k', b, v, hx, hy, hv, hw⟩ := h
      simp only [hx, hy, Sem.run_bind, eqGuard_int, Result.andThen_ok, intBin_sound hv, Sem.run_pure]
      exact hk _ _ hw
    cases hd : P.underlying t with
    | none => rw [hd] at h; exact Ex.up (eqV_ex h) hk
    | some d =>
      rw [hd] at h
      cases d <;> first | exact it h | exact Ex.up (eqV_ex h) hk
  case unOp op t x =>
    obtain ⟨v, hv, hw⟩ := h
    simp only [Sem.run_bind, hv, Result.andThen_ok, Sem.run_pure]
    exact hk _ _ hw
  case convert src dst' x =>
    have it : ∀ k1 k2, P.underlying src = some (.int k1) → P.underlying dst' = some (.int k2) → ConvI k2 (ev ρ x) K w → ({ dst := dst, op := Op.convert src dst' x, type := ty, pos := pos, after := after, guard := guard } : Oper).uponIn (FR ro) 0 P a next Q
        ((do let x ← convert src dst' (ev ρ x); pure (Next.value x) : Sem Next).run P w) := by
      intro k1 k2 h1 h2 h
      have : ∃ k n, ev ρ x = .int k n ∧ K (.int k2 (k2.wrap n)) w := by
        revert h; generalize ev ρ x = xv
        intro h
        cases xv with
        | int k n => exact ⟨k, n, rfl, h⟩
        | _ => exact h.elim
      obtain ⟨k, n, hx, hw⟩ := this
      simp only [hx, convert, Sem.run_bind, run_underlying h1, run_underlying h2, Result.andThen_ok, Conv.intToInt, Sem.run_pure]
      exact hk _ _ hw
    cases h1 : P.underlying src with
    | none => rw [h1] at h; exact Ex.up h hk
    | some d1 =>
      rw [h1] at h
      cases h2 : P.underlying dst' with
      | none => rw [h2] at h; cases d1 <;> exact Ex.up h hk
      | some d2 =>
        rw [h2] at h
        cases d1 <;> cases d2 <;> first | exact it _ _ h1 h2 h | exact Ex.up h hk
  case makeInterface t x => exact Ex.up h hk
  case makeFunc fn first caps => rw [evs_eq, evs_eq] at h; exact hkS (dy _) _ trivial h
  case makeMap t r => exact Ex.up h hk
  case makeSlice t l c =>
    obtain ⟨e, i, z, hu, hi, hz, h⟩ := elemV_out h
    exact Ex.up (MkSC_ex hu hi hz h) hk
  case slice t x lo hi mx =>
    unfold slcV at h
    cases hu : P.underlying t with
    | none => rw [hu] at h; exact Ex.up h hk
    | some d =>
      rw [hu] at h
      cases d <;> (try exact Ex.up h hk)
      rename_i e
      dsimp only at h
      cases hm : mx.map (ev ρ) with
      | some _ => rw [hm] at h; exact Ex.up h hk
      | none =>
        rw [hm] at h
        dsimp only at h
        cases hi' : P.info? e with
        | none => rw [hi'] at h; exact h.elim
        | some i => rw [hi'] at h; exact Ex.up (SlC_ex hu hi' h) hk
  case fieldAddr s x f =>
    cases hs' : P.underlying s with
    | none => rw [hs'] at h; exact h.elim
    | some d =>
      rw [hs'] at h
      cases d <;> (try exact h.elim)
      rename_i fs
      dsimp only at h
      cases hf : fs[f]? with
      | none => rw [hf] at h; exact h.elim
      | some fl =>
        rw [hf] at h
        dsimp only at h
        cases hi : P.info? fl.type with
        | none => rw [hi] at h; exact h.elim
        | some i =>
          rw [hi] at h
          dsimp only at h
          cases hz : Nat.beq i.size 0 with
          | true => rw [hz] at h; exact Ex.up h hk
          | false =>
            rw [hz] at h
            have hz' : i.size ≠ 0 := Nat.ne_of_beq_eq_false hz
            have : ∃ p, ev ρ x = .pointer (some p) ∧ K (.pointer (some (p.add fl.offset))) w := by
              revert h; generalize ev ρ x = xv
              intro h
              cases xv with
              | pointer p => cases p with
                | none => exact h.elim
                | some p => exact ⟨p, rfl, h⟩
              | _ => exact h.elim
            obtain ⟨p, hp, hw⟩ := this
            simp only [hp, Instr.fieldAt, Sem.run_bind, run_underlying hs', Result.andThen_ok, hf, Instr.sureAddr, Sem.run_pure, fieldPlace, run_sizeOf hi, hz', if_false]
            exact hk _ _ hw
  case field t x f => exact Ex.up h hk
  case indexAddr t x ix =>
    cases he : P.underlying t with
    | none => rw [he] at h; exact h.elim
    | some d =>
      rw [he] at h
      cases d <;> (try exact h.elim)
      case slice e =>
        dsimp only at h
        cases hi : P.info? e with
        | none => rw [hi] at h; exact h.elim
        | some i =>
          rw [hi] at h
          obtain ⟨p, len, cap, k, n, hx, hix, h0, hn, hw⟩ := h
          simp only [hx, hix, Instr.indexAt, asIntOf, Sem.run_bind, Sem.run_pure, Result.andThen_ok, run_underlying he, h0, hn, and_self, if_true, run_sizeOf hi]
          exact hk _ _ hw
      case array m e =>
        dsimp only at h
        cases hi : P.info? e with
        | none => rw [hi] at h; exact h.elim
        | some i =>
          rw [hi] at h
          obtain ⟨p, k, n, hx, hix, h0, hn, hw⟩ := h
          simp only [hx, hix, Instr.indexAt, asIntOf, Sem.run_bind, Sem.run_pure, Result.andThen_ok, run_underlying he, h0, hn, and_self, if_true, run_sizeOf hi, Instr.sureAddr]
          exact hk _ _ hw
  case index t x ix => exact Ex.up h hk
  case lookup t x ix ok => exact Ex.up h hk
  case mapUpdate t m k x => exact Ex.upU h hk
  case insert t m k x => exact Ex.upU h hk
  case mapEntry t m k => exact Ex.up h hk
  case entryStore t m s x => exact Ex.upU h hk
  case range t x => exact Ex.up h hk
  case next it s => exact Ex.up h hk
  case entry it => exact Ex.up h hk
  case typeAssert x xt as' ok => exact Ex.up h hk
  case extract t ix =>
    have : ∃ vs v, ev ρ t = .tuple vs ∧ vs[ix]? = some v ∧ K v w := by
      revert h; generalize ev ρ t = tv
      intro h
      cases tv with
      | tuple vs =>
        simp only [Ext] at h
        split at h
        · rename_i v hv; exact ⟨vs, v, rfl, hv, h⟩
        · exact h.elim
      | _ => exact h.elim
    obtain ⟨vs, v, ht, hv, hw⟩ := this
    simp only [ht, Instr.extract, hv, Sem.run_bind, Sem.run_pure, Result.andThen_ok]
    exact hk _ _ hw
  case call c =>
    obtain ⟨callee, args, ats⟩ := c
    cases callee with
    | value f =>
      dsimp only at h
      rw [evs_eq] at h
      revert h
      simp only [resolve, Sem.run_bind]
      generalize ev ρ f = fv
      intro h
      cases fv with
      | func fn first caps =>
        cases fn with
        | func k =>
          rcases h with ⟨he, hc⟩ | ⟨v, w', he, hv⟩
          · simp only [Deferred.ofValue, Sem.run_pure, Result.andThen_ok, invoke, he]
            refine ⟨FR_depth ro 0, (callsIn_of hc).mono ?_⟩
            rintro e w' ⟨v, rfl, hv⟩
            exact hk _ _ hv
          · simp only [Deferred.ofValue, Sem.run_pure, Result.andThen_ok, invoke, he]
            exact hk _ _ hv
        | yield l =>
          obtain ⟨f', tmps, assign, body, hy, _, hr⟩ := h
          simp only [Deferred.ofValue, Sem.run_pure, Result.andThen_ok, invoke, hy]
          refine ⟨FR_depth ro 0, hr.1, fun c cs hroom => ?_⟩
          obtain ⟨e, w', ⟨v, rfl, hv⟩, hs⟩ := hr.2 c cs hroom
          exact ⟨.returned v, w', hk _ _ hv, hs⟩
        | _ => exact h.elim
      | _ => exact h.elim
    | invoke r m => exact h.elim
    | builtin b =>
      have : ∀ b', resolve (ev ρ) { callee := .builtin b', args := args, argTypes := ats } ty = pure { target := .builtin b' ats ty (args.map fun | .const _ => true | _ => false), args := args.map (ev ρ) } := fun _ => rfl
      dsimp only at h
      simp only [this, Sem.run_bind, Sem.run_pure, Result.andThen_ok, invoke]
      cases b <;> (try exact h.elim) <;> dsimp only at h <;> (try simp only [evs_eq] at h) <;> simp only [builtin]
      case len =>
        have ex : Ex P (Builtin.len_ ats ty (args.map (ev ρ))) K w → ({ dst := dst, op := Op.call { callee := .builtin .len, args := args, argTypes := ats }, type := ty, pos := pos, after := after, guard := guard } : Oper).uponIn (FR ro) 0 P a next Q
            ((do let x ← Builtin.len_ ats ty (args.map (ev ρ)); pure (Next.value x) : Sem Next).run P w) := fun h => Ex.up h hk
        obtain ⟨ats⟩ := ats
        obtain ⟨args⟩ := args
        cases ats with
        | nil => exact ex h
        | cons t ts =>
          cases args with
          | nil => exact ex h
          | cons x xs =>
            simp only [lenV, List.map_cons] at h
            cases hu : P.underlying t with
            | none => rw [hu] at h; exact ex h
            | some d =>
              rw [hu] at h
              cases d with
              | slice e =>
                have : ∃ p n c, ev ρ x = .slice p n c ∧ K (.int .i64 n) w := by
                  revert h; generalize ev ρ x = xv
                  intro h
                  cases xv with
                  | slice p n c => exact ⟨p, n, c, rfl, h⟩
                  | _ => exact h.elim
                obtain ⟨p, n, c, hx, hw⟩ := this
                have e : (Builtin.len_ (⟨t :: ts⟩ : Array TypeId) ty ((⟨x :: xs⟩ : Array Operand).map (ev ρ))).run P w = .ok (.int .i64 n) w := by
                  simp [Builtin.len_, hx, run_underlying hu, goInt]
                rw [Sem.run_bind, e]
                exact hk _ _ hw
              | _ => exact ex h
      case append =>
        obtain ⟨ats⟩ := ats
        obtain ⟨args⟩ := args
        have fall : Ex P (Builtin.append_ (⟨ats⟩ : Array TypeId) ty ((⟨args⟩ : Array Operand).map (ev ρ))) K w ∨ ∃ t t' s x e', ats = [t, t'] ∧ args.map (ev ρ) = [s, x] ∧ P.underlying t' = some (.slice e') ∧ (elemV P t fun e i z => AppC e i.size i.bytes z.cells s x K) w := by
          simp only at h
          unfold appV at h
          revert h
          generalize hl : List.map (ev ρ) args = l
          intro h
          match ats, l, hl, h with
          | [t, t'], [s, x], hl, h =>
            dsimp only at h
            cases hsl : isSl P t' with
            | false => rw [hsl] at h; exact .inl h
            | true =>
              rw [hsl] at h
              obtain ⟨e', he'⟩ : ∃ e', P.underlying t' = some (.slice e') := by
                unfold isSl at hsl
                cases hq : P.underlying t' with
                | none => rw [hq] at hsl; cases hsl
                | some d => rw [hq] at hsl; cases d <;> (try cases hsl); exact ⟨_, rfl⟩
              exact .inr ⟨t, t', s, x, e', rfl, rfl, he', h⟩
          | [], _, _, h => exact .inl h
          | [_], _, _, h => exact .inl h
          | _ :: _ :: _ :: _, _, _, h => exact .inl h
          | [_, _], [], _, h => exact .inl h
          | [_, _], [_], _, h => exact .inl h
          | [_, _], _ :: _ :: _ :: _, _, h => exact .inl h
        rcases fall with h | ⟨t, t', s, x, e', h1, h2, he', hx⟩
        · exact Ex.up h hk
        · subst h1
          obtain ⟨e, i, z, hu, hi, hz, hx⟩ := elemV_out hx
          have ha : (⟨args⟩ : Array Operand).map (ev ρ) = #[s, x] := by
            rw [← Array.toArray_toList (xs := (⟨args⟩ : Array Operand).map (ev ρ)), Array.toList_map, h2]
          rw [ha]
          exact Ex.up (AppC_ex hu hi hz he' hx) hk
      case cap => exact Ex.up h hk
      case clear =>
        obtain ⟨ats⟩ := ats
        obtain ⟨args⟩ := args
        have fall : Ex P (Builtin.clear_ (⟨ats⟩ : Array TypeId) ty ((⟨args⟩ : Array Operand).map (ev ρ))) K w ∨ ∃ t x e, ats = [t] ∧ args.map (ev ρ) = [x] ∧ P.underlying t = some (.slice e) ∧ (elemV P t fun _ _ z => Ex P (clrS z.cells x) K) w := by
          simp only at h
          unfold clrV at h
          revert h
          generalize hl : List.map (ev ρ) args = l
          intro h
          match ats, l, hl, h with
          | [t], [x], hl, h =>
            dsimp only at h
            cases hu : P.underlying t with
            | none => rw [hu] at h; exact .inl h
            | some d =>
              rw [hu] at h
              cases d <;> (try exact .inl h)
              exact .inr ⟨t, x, _, rfl, rfl, hu, h⟩
          | [], _, _, h => exact .inl h
          | _ :: _ :: _, _, _, h => exact .inl h
          | [_], [], _, h => exact .inl h
          | [_], _ :: _ :: _, _, h => exact .inl h
        rcases fall with h | ⟨t, x, e, h1, h2, hu, hx⟩
        · exact Ex.up h hk
        · subst h1
          have ha : (⟨args⟩ : Array Operand).map (ev ρ) = #[x] := by
            rw [← Array.toArray_toList (xs := (⟨args⟩ : Array Operand).map (ev ρ)), Array.toList_map, h2]
          rw [ha]
          obtain ⟨e, i, z, hu', hi, hz, hx⟩ := elemV_out hx
          exact Ex.up (clrS_ex hu' hi hz hx) hk
      case copy => exact Ex.up h hk
      case delete => exact Ex.up h hk
      case max => exact Ex.up h hk
      case min => exact Ex.up h hk
end
end Go.Jac
