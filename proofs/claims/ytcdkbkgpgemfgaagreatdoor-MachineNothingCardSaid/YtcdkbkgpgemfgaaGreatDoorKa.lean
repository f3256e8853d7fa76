/- A run of a program in memory that is known by names: the machine that works it out (no proof yet; Kb and on say that it is right). -/
import Derived.Test.YtcdkbkgpgemfgaaGreatDoorBu
import Derived.Test.YtcdkbkgpgemfgaaGreatDoorSn
namespace Go.Jac
open Go

/-- What a run comes to; why there is none. -/
inductive R (α : Type) where
  | ok (a : α)
  | no (why : Nat)
def R.bind {α β : Type} (x : R α) (f : α → R β) : R β := match x with | .ok a => f a | .no n => .no n
theorem R.bind_ok {α β : Type} {x : R α} {f : α → R β} {b : β} (h : R.bind x f = .ok b) : ∃ a, x = .ok a ∧ f a = .ok b := by
  cases x with
  | ok a => exact ⟨a, rfl, h⟩
  | no n => cases h
def need (b : Bool) (why : Nat) {α : Type} (x : R α) : R α := cond b x (.no why)
theorem need_ok {b : Bool} {why : Nat} {α : Type} {x : R α} {a : α} (h : need b why x = .ok a) : b = true ∧ x = .ok a := by
  cases b with
  | true => exact ⟨rfl, h⟩
  | false => cases h
def R.of {α : Type} (x : Option α) (why : Nat) : R α := match x with | some a => .ok a | none => .no why
theorem R.of_ok {α : Type} {x : Option α} {why : Nat} {a : α} (h : R.of x why = .ok a) : x = some a := by
  cases x with
  | none => cases h
  | some b => cases h; rfl

/-- Values in which blocks have names. -/
inductive X where
  | un
  | no
  | int (k : IntKind) (n : Int)
  | bool (b : Bool)
  | lit (v : Value)
  | ptr (b o : Nat)
  | gp (g o : Nat)
  | sl (b o len cap : Nat)
  | so (b o len k : Nat)
  | se (b o1 o2 k : Nat)
  | mp (b : Nat)
  | fn (f : Fn) (first caps : List X)
  | yld (b : Nat)
  | agg (xs : List X)
  | tup (xs : List X)
  | sym (i c : Nat)
  | stp (n : Nat)
  deriving Inhabited
abbrev XE := List (Nat × X)
/-- What is given: the global variables' cells; what operations on unknown numbers come to. -/
structure Gv where
  gl : Nat → Option (List X)
  bin : BinOp → X → X → Option X
  conv : IntKind → X → Option X
  mm : Bool → X → X → Option X
/-- A loop over a function: what a round does. -/
structure LpI where
  ps : List Nat
  a : Code
  b : Code
  E : XE
  n : Nat
inductive PX where
  | none
  | ret
  | exit (i : Nat)
inductive XB where
  | bl (t : TypeId) (op : Option Nat) (cs : List X)
  | mp (es : List (Int × X))
  | lp (i : LpI) (st : LoopState) (p : PX)
  | df
  | ms (es : List (Int × X)) (k : Int) (n : Nat)
  | mi (b : Nat) (es : List (Int × X)) (seen : List Int) (cur : Option (Int × X))
structure XS where
  nx : Nat
  bs : List (Nat × XB)

def findB : List (Nat × XB) → Nat → Option XB
  | [], _ => none
  | (b, x) :: r, n => cond (Nat.beq b n) (some x) (findB r n)
def updB : List (Nat × XB) → Nat → XB → List (Nat × XB)
  | [], _, _ => []
  | (b, x) :: r, n, y => cond (Nat.beq b n) ((b, y) :: r) ((b, x) :: updB r n y)
def delB : List (Nat × XB) → Nat → List (Nat × XB)
  | [], _ => []
  | (b, x) :: r, n => cond (Nat.beq b n) r ((b, x) :: delB r n)
def XS.upd (s : XS) (n : Nat) (x : XB) : XS := ⟨s.nx, updB s.bs n x⟩
def XS.del (s : XS) (n : Nat) : XS := ⟨s.nx, delB s.bs n⟩
def XS.add (s : XS) (x : XB) : XS := ⟨s.nx + 1, (s.nx, x) :: s.bs⟩

def getE : XE → Nat → X
  | [], _ => .un
  | (j, x) :: r, i => cond (Nat.beq i j) x (getE r i)
def of1 : Value → X
  | .int k n => .int k n
  | .bool b => .bool b
  | v => .lit v
def ofV : Value → X
  | .agg cs => .agg (cs.toList.map of1)
  | v => of1 v
def opX (E : XE) : Operand → X
  | .tmp t => getE E t
  | .const v => ofV v
  | .global g => .gp g 0
  | .func f => .fn (.func f) [] []
def xcells : X → List X
  | .agg xs => xs
  | x => [x]
def ow {α : Type} : List α → Nat → List α → List α
  | cs, 0, [] => cs
  | _ :: cs, 0, v :: vs => v :: ow cs 0 vs
  | c :: cs, o + 1, vs => c :: ow cs o vs
  | [], _, _ => []
def xFill (pl : Nat → Option (Nat × Nat)) (cells : List X) : List (Nat × X) → Option (List X)
  | [] => some cells
  | (i, x) :: r => match pl i with
    | none => none
    | some (off, size) => cond (Nat.beq (xcells x).length size) (cond (Nat.ble (off + (xcells x).length) cells.length) (xFill pl (ow cells off (xcells x)) r) none) none
/-- May it stand in one cell? -/
def one1 : X → Bool
  | .int _ _ => true
  | .bool _ => true
  | .lit v => v.oneCell'
  | .ptr _ _ => true
  | .gp _ _ => true
  | .sl _ _ _ _ => true
  | .so _ _ _ _ => true
  | .se _ _ _ _ => true
  | .mp _ => true
  | .fn _ _ _ => true
  | .yld _ => true
  | .sym _ _ => true
  | _ => false
def isX : X → Bool
  | .un => false
  | .no => false
  | _ => true

/-! ### Values worked out at once (the kernel would else carry what was never looked at) -/
section
variable {β : Type}
def natK (n : Nat) (k : Nat → R β) : R β := match n with | .zero => k .zero | .succ m => k (.succ m)
theorem natK_eq (n : Nat) (k : Nat → R β) : natK n k = k n := by cases n <;> rfl
def intK (n : Int) (k : Int → R β) : R β := match n with | .ofNat m => natK m fun m => k (.ofNat m) | .negSucc m => natK m fun m => k (.negSucc m)
theorem intK_eq (n : Int) (k : Int → R β) : intK n k = k n := by cases n <;> simp only [intK, natK_eq]
def force0 (x : X) (k : X → R β) : R β := match x with
  | .int kd n => intK n fun n => k (.int kd n)
  | .bool true => k (.bool true)
  | .bool false => k (.bool false)
  | .ptr b o => natK b fun b => natK o fun o => k (.ptr b o)
  | .gp b o => natK b fun b => natK o fun o => k (.gp b o)
  | .sl b o l c => natK b fun b => natK o fun o => natK l fun l => natK c fun c => k (.sl b o l c)
  | .so b o l c => natK b fun b => natK o fun o => natK l fun l => natK c fun c => k (.so b o l c)
  | .se b o l c => natK b fun b => natK o fun o => natK l fun l => natK c fun c => k (.se b o l c)
  | .mp b => natK b fun b => k (.mp b)
  | .yld b => natK b fun b => k (.yld b)
  | .stp b => natK b fun b => k (.stp b)
  | .sym a b => natK a fun a => natK b fun b => k (.sym a b)
  | x => k x
theorem force0_eq (x : X) (k : X → R β) : force0 x k = k x := by
  unfold force0
  split <;> simp only [intK_eq, natK_eq]
def force0s : List X → (List X → R β) → R β
  | [], k => k []
  | x :: r, k => force0 x fun x => force0s r fun r => k (x :: r)
theorem force0s_eq : ∀ (xs : List X) (k : List X → R β), force0s xs k = k xs
  | [], _ => rfl
  | x :: r, k => by simp only [force0s, force0_eq, force0s_eq r]
def force1 (x : X) (k : X → R β) : R β := match x with
  | .agg xs => force0s xs fun xs => k (.agg xs)
  | .tup xs => force0s xs fun xs => k (.tup xs)
  | .fn f a c => force0s a fun a => force0s c fun c => k (.fn f a c)
  | x => force0 x k
theorem force1_eq (x : X) (k : X → R β) : force1 x k = k x := by
  unfold force1
  split <;> simp only [force0s_eq, force0_eq]
def force1s : List X → (List X → R β) → R β
  | [], k => k []
  | x :: r, k => force1 x fun x => force1s r fun r => k (x :: r)
theorem force1s_eq : ∀ (xs : List X) (k : List X → R β), force1s xs k = k xs
  | [], _ => rfl
  | x :: r, k => by simp only [force1s, force1_eq, force1s_eq r]
def force2 (x : X) (k : X → R β) : R β := match x with
  | .tup xs => force1s xs fun xs => k (.tup xs)
  | x => force1 x k
theorem force2_eq (x : X) (k : X → R β) : force2 x k = k x := by
  unfold force2
  split <;> simp only [force1s_eq, force1_eq]
def force2s : List X → (List X → R β) → R β
  | [], k => k []
  | x :: r, k => force2 x fun x => force2s r fun r => k (x :: r)
theorem force2s_eq : ∀ (xs : List X) (k : List X → R β), force2s xs k = k xs
  | [], _ => rfl
  | x :: r, k => by simp only [force2s, force2_eq, force2s_eq r]
def forceM : List (Int × X) → (List (Int × X) → R β) → R β
  | [], k => k []
  | (n, x) :: r, k => intK n fun n => force1 x fun x => forceM r fun r => k ((n, x) :: r)
theorem forceM_eq : ∀ (xs : List (Int × X)) (k : List (Int × X) → R β), forceM xs k = k xs
  | [], _ => rfl
  | (n, x) :: r, k => by simp only [forceM, intK_eq, force1_eq, forceM_eq r]
def forceI : List Int → (List Int → R β) → R β
  | [], k => k []
  | n :: r, k => intK n fun n => forceI r fun r => k (n :: r)
theorem forceI_eq : ∀ (xs : List Int) (k : List Int → R β), forceI xs k = k xs
  | [], _ => rfl
  | n :: r, k => by simp only [forceI, intK_eq, forceI_eq r]
def forceB (x : XB) (k : XB → R β) : R β := match x with
  | .bl t op cs => force1s cs fun cs => k (.bl t op cs)
  | .mp es => forceM es fun es => k (.mp es)
  | .ms es a n => forceM es fun es => intK a fun a => natK n fun n => k (.ms es a n)
  | .mi b es seen (some (n, x)) => natK b fun b => forceM es fun es => forceI seen fun seen => intK n fun n => force1 x fun x => k (.mi b es seen (some (n, x)))
  | .mi b es seen none => natK b fun b => forceM es fun es => forceI seen fun seen => k (.mi b es seen none)
  | x => k x
theorem forceB_eq (x : XB) (k : XB → R β) : forceB x k = k x := by
  unfold forceB
  split <;> simp only [force1s_eq, forceM_eq, intK_eq, natK_eq, forceI_eq, force1_eq]
def updBK : List (Nat × XB) → Nat → XB → (List (Nat × XB) → R β) → R β
  | [], _, _, k => k []
  | (b, x) :: r, n, y, k => cond (Nat.beq b n) (k ((b, y) :: r)) (updBK r n y fun r => k ((b, x) :: r))
theorem updBK_eq : ∀ (bs : List (Nat × XB)) (n : Nat) (y : XB) (k : List (Nat × XB) → R β), updBK bs n y k = k (updB bs n y)
  | [], _, _, _ => rfl
  | (b, x) :: r, n, y, k => by
    unfold updBK updB
    cases Nat.beq b n with
    | true => rfl
    | false => simp only [cond_false]; rw [updBK_eq r]
def delBK : List (Nat × XB) → Nat → (List (Nat × XB) → R β) → R β
  | [], _, k => k []
  | (b, x) :: r, n, k => cond (Nat.beq b n) (k r) (delBK r n fun r => k ((b, x) :: r))
theorem delBK_eq : ∀ (bs : List (Nat × XB)) (n : Nat) (k : List (Nat × XB) → R β), delBK bs n k = k (delB bs n)
  | [], _, _ => rfl
  | (b, x) :: r, n, k => by
    unfold delBK delB
    cases Nat.beq b n with
    | true => rfl
    | false => simp only [cond_false]; rw [delBK_eq r]
def XS.updK (s : XS) (n : Nat) (x : XB) (k : XS → R β) : R β := forceB x fun x => updBK s.bs n x fun bs => k ⟨s.nx, bs⟩
theorem XS.updK_eq (s : XS) (n : Nat) (x : XB) (k : XS → R β) : s.updK n x k = k (s.upd n x) := by unfold XS.updK; rw [forceB_eq, updBK_eq]; rfl
def XS.delK (s : XS) (n : Nat) (k : XS → R β) : R β := delBK s.bs n fun bs => k ⟨s.nx, bs⟩
theorem XS.delK_eq (s : XS) (n : Nat) (k : XS → R β) : s.delK n k = k (s.del n) := by unfold XS.delK; rw [delBK_eq]; rfl
def XS.addK (s : XS) (x : XB) (k : XS → R β) : R β := forceB x fun x => natK (s.nx + 1) fun m => k ⟨m, (s.nx, x) :: s.bs⟩
theorem XS.addK_eq (s : XS) (x : XB) (k : XS → R β) : s.addK x k = k (s.add x) := by unfold XS.addK; rw [forceB_eq, natK_eq]; rfl
end

section
variable (P : Program) (GL : Gv)

/-! ### What reads -/
def cellsAt (S : XS) : X → R (List X)
  | .ptr b o => match findB S.bs b with
    | some (.bl _ _ cs) => need (Nat.ble o cs.length) 1 (.ok (cs.drop o))
    | _ => .no 2
  | .gp g o => match GL.gl g with
    | some cs => need (Nat.ble o cs.length) 3 (.ok (cs.drop o))
    | none => .no 4
  | _ => .no 5
def xLd1 (S : XS) (a : X) : R X := (cellsAt GL S a).bind fun cs => match cs with | x :: _ => .ok x | [] => .no 6
def xLdN (S : XS) (a : X) (n : Nat) : R X := (cellsAt GL S a).bind fun cs => need (Nat.ble n cs.length) 7 (.ok (.agg (cs.take n)))
def xLoad (S : XS) (t : TypeId) (a : X) : R X := match P.underlying t with
  | some (.struct _) | some (.array _ _) => (match P.info? t with | some i => xLdN GL S a i.size | none => .no 8)
  | some _ => xLd1 GL S a
  | none => .no 9
def xNil : X → R X
  | .ptr b o => .ok (.ptr b o)
  | .gp b o => .ok (.gp b o)
  | .fn (.func f) a c => .ok (.fn (.func f) a c)
  | .yld b => .ok (.yld b)
  | _ => .no 10
def xBinI (op : BinOp) : X → X → R X
  | .int k a, .int k' b => (R.of (intBin op k a k' b) 11).bind fun v => .ok (of1 v)
  | x, y => R.of (GL.bin op x y) 12
def isNilP : X → Option Bool
  | .lit (.pointer none) => some true
  | .ptr _ _ => some false
  | .gp _ _ => some false
  | _ => none
def xPP (neg : Bool) : X → X → R X
  | .ptr b o, .ptr b' o' => need (Nat.beq b b') 13 (.ok (.bool (cond neg (!(Nat.beq o o')) (Nat.beq o o'))))
  | _, _ => .no 14
def xEqP (neg : Bool) (x y : X) : R X := match isNilP x, isNilP y with
  | some a, some b => cond (a || b) (.ok (.bool (cond neg (!(a && b)) (a && b)))) (xPP neg x y)
  | _, _ => .no 15
def xIntsEq : List X → List X → Option Bool
  | [], [] => some true
  | .int k a :: r, .int k' b :: r' => cond (decide (k = k')) ((xIntsEq r r').map fun t => a == b && t) none
  | _, _ => none
def xEqS (n : Nat) (neg : Bool) : X → X → R X
  | .agg xs, .agg ys => need (Nat.beq xs.length n) 16 (need (Nat.beq ys.length n) 17 ((R.of (xIntsEq xs ys) 18).bind fun b => .ok (.bool (cond neg (!b) b))))
  | _, _ => .no 19
def xEqB (neg : Bool) : X → X → R X
  | .bool a, .bool b => .ok (.bool (cond neg (!(a == b)) (a == b)))
  | _, _ => .no 20
/-- nil slices, maps, functions: compared with nil. -/
def isNilS : X → Option Bool
  | .lit (.slice none _ _) => some true
  | .sl _ _ _ _ => some false
  | .so _ _ _ _ => some false
  | .se _ _ _ _ => some false
  | _ => none
def isNilM : X → Option Bool
  | .lit (.map none) => some true
  | .mp _ => some false
  | _ => none
def xNilEq (neg : Bool) : Option Bool → Option Bool → R X
  | some a, some b => need (a || b) 241 (.ok (.bool (cond neg (!(a && b)) (a && b))))
  | _, _ => .no 242
def bytesEq : List UInt8 → List UInt8 → Bool
  | [], [] => true
  | a :: r, b :: s => cond (decide (a = b)) (bytesEq r s) false
  | _, _ => false
def strEq (a b : ByteArray) : Bool := bytesEq a.data.toList b.data.toList
def xEq (neg : Bool) (t : TypeId) (x y : X) : R X := match P.underlying t with
  | some .bool => xEqB neg x y
  | some (.pointer e) => (match P.info? e with | some i => cond (Nat.beq i.size 0) (.no 21) (xEqP neg x y) | none => .no 22)
  | some (.struct fs) => cond (flatS P t fs) (xEqS fs.size neg x y) (.no 23)
  | some .string => (match x, y with
    | .lit (.string a), .lit (.string b) => .ok (.bool (cond neg (!(strEq a b)) (strEq a b)))
    | _, _ => .no 24)
  | some (.slice _) => xNilEq neg (isNilS x) (isNilS y)
  | some (.map _ _) => xNilEq neg (isNilM x) (isNilM y)
  | _ => .no 25
def xBin (op : BinOp) (t : TypeId) (x y : X) : R X := match P.underlying t with
  | some (.int _) => xBinI GL op x y
  | _ => match op with
    | .eql => xEq P false t x y
    | .neq => xEq P true t x y
    | _ => .no 26
def xUn : UnOp → X → R X
  | .not, .bool b => .ok (.bool (!b))
  | .neg, .int k n => .ok (.int k (k.wrap (0 - n)))
  | _, _ => .no 27
def xConv (src dst : TypeId) (x : X) : R X := match P.underlying src, P.underlying dst with
  | some (.int _), some (.int k) => (match x with | .int _ n => .ok (.int k (k.wrap n)) | x => R.of (GL.conv k x) 28)
  | _, _ => .no 29
def xBound (hi : Option X) (d : Nat) : R Nat := match hi with
  | none => .ok d
  | some (.int _ i) => (match i with | .ofNat n => .ok n | _ => .no 30)
  | _ => .no 31
def xSl (size : Nat) (x : X) (lo hi : Option X) : R X := match x with
  | .lit (.slice none 0 0) => (xBound hi 0).bind fun h => (xBound lo 0).bind fun l => need (Nat.beq h 0) 32 (need (Nat.beq l 0) 33 (.ok (.lit (.slice none 0 0))))
  | .sl b o len cap => (xBound hi len).bind fun h => (xBound lo 0).bind fun l => need (Nat.ble h cap) 34 (need (Nat.ble l h) 35 (.ok (.sl b (cond (Nat.beq cap l) o (o + l * size)) (h - l) (cap - l))))
  | .so b o len k => (xBound hi len).bind fun h => (xBound lo 0).bind fun l => need (Nat.ble h len) 36 (need (Nat.ble l h) 37 (cond (Nat.beq l 0) (.ok (.so b o h k)) (cond (Nat.blt l len) (.ok (.so b (o + l * size) (h - l) (k + l))) (.ok (.se b o (o + l * size) (k + l))))))
  | .se b o1 o2 k => (xBound hi 0).bind fun h => (xBound lo 0).bind fun l => need (Nat.beq h 0) 38 (need (Nat.beq l 0) 39 (.ok (.se b o1 o2 k)))
  | _ => .no 40
def xSl3 (size : Nat) (x : X) (l h m : Nat) : R X := need (Nat.ble l h) 42 (need (Nat.ble h m) 43 (match x with
  | .lit (.slice none 0 0) => need (Nat.beq m 0) 44 (.ok (.lit (.slice none 0 0)))
  | .sl b o _ cap => need (Nat.ble m cap) 44 (.ok (.sl b (cond (Nat.beq m l) o (o + l * size)) (h - l) (m - l)))
  | .so b o len _ => need (Nat.ble m len) 44 (.ok (.sl b (cond (Nat.beq m l) o (o + l * size)) (h - l) (m - l)))
  | _ => .no 45))
def xSlice (t : TypeId) (x : X) (lo hi mx : Option X) : R X := match P.underlying t with
  | some (.slice e) => (match P.info? e with
    | some i => (match mx with
      | none => xSl i.size x lo hi
      | some m => (xBound (some m) 0).bind fun m => match hi with
        | some h => (xBound (some h) 0).bind fun h => (xBound lo 0).bind fun l => xSl3 i.size x l h m
        | none => .no 41)
    | none => .no 41)
  | _ => .no 46
def xFA (s : TypeId) (x : X) (f : Nat) : R X := match P.underlying s with
  | some (.struct fields) => (match fields[f]? with
    | some fl => (match P.info? fl.type with
      | some i => cond (Nat.beq i.size 0) (.no 47) (match x with
        | .ptr b o => .ok (.ptr b (o + fl.offset))
        | .gp b o => .ok (.gp b (o + fl.offset))
        | _ => .no 48)
      | none => .no 49)
    | none => .no 50)
  | _ => .no 51
def xPart (t : TypeId) (xs : List X) (off : Nat) : R X := match P.underlying t with
  | some (.struct _) | some (.array _ _) => (match P.info? t with | some i => .ok (.agg ((xs.take (off + i.size)).drop off)) | none => .no 52)
  | some _ => R.of xs[off]? 53
  | none => .no 54
def xField (t : TypeId) (x : X) (f : Nat) : R X := match P.underlying t with
  | some (.struct fields) => (match fields[f]? with
    | some fl => (match x with | .agg xs => xPart P fl.type xs fl.offset | _ => .no 55)
    | none => .no 56)
  | _ => .no 57
def xIA (es : Nat) (x i : X) : R X := match i with
  | .int _ (.ofNat n) => (match x with
    | .sl b o len _ => need (Nat.blt n len) 58 (.ok (.ptr b (o + n * es)))
    | .so b o len _ => need (Nat.blt n len) 59 (.ok (.ptr b (o + n * es)))
    | _ => .no 60)
  | _ => .no 61
def xIAr (len es : Nat) (x i : X) : R X := match i with
  | .int _ (.ofNat n) => need (Nat.blt n len) 62 (match x with
    | .ptr b o => .ok (.ptr b (o + n * es))
    | .gp b o => .ok (.gp b (o + n * es))
    | _ => .no 63)
  | _ => .no 64
def xIndexAddr (t : TypeId) (x ix : X) : R X := match P.underlying t with
  | some (.slice e) => (match P.info? e with | some i => xIA i.size x ix | none => .no 65)
  | some (.array n e) => (match P.info? e with | some i => xIAr n i.size x ix | none => .no 66)
  | _ => .no 67
def xIndex (t : TypeId) (x ix : X) : R X := match P.underlying t with
  | some (.array n e) => (match ix, x with
    | .int _ (.ofNat j), .agg xs => need (Nat.blt j n) 68 (match P.info? e with | some i => xPart P e xs (j * i.size) | none => .no 69)
    | _, _ => .no 70)
  | some .string => (match ix, x with
    | .int _ (.ofNat j), .lit (.string s) => (match s.data.toList[j]? with | some b => .ok (.int .u8 (b.toNat : Nat)) | none => .no 68)
    | _, _ => .no 70)
  | _ => .no 71
def lkM : List (Int × X) → Int → Option X
  | [], _ => none
  | (k, x) :: r, n => cond (decide (k = n)) (some x) (lkM r n)
def upM : List (Int × X) → Int → X → List (Int × X)
  | [], k, x => [(k, x)]
  | (k', y) :: r, k, x => cond (decide (k' = k)) ((k, x) :: r) ((k', y) :: upM r k x)
def delM : List (Int × X) → Int → List (Int × X)
  | [], _ => []
  | (k', y) :: r, k => cond (decide (k' = k)) r ((k', y) :: delM r k)
def hasI : List Int → Int → Bool
  | [], _ => false
  | a :: r, k => cond (decide (a = k)) true (hasI r k)
def restM (seen : List Int) : List (Int × X) → List (Int × X)
  | [] => []
  | (k, y) :: r => cond (hasI seen k) (restM seen r) ((k, y) :: restM seen r)
def isI64 (t : TypeId) : Bool := match P.underlying t with | some (.int .i64) => true | _ => false
def xLookup (S : XS) (t : TypeId) (m k : X) (ok : Bool) : R X := match P.underlying t with
  | some (.map kt et) => need (isI64 P kt) 72 (match k with
    | .int .i64 n => (match (P.info? et).bind (·.zero) with
      | some z => (match m with
        | .mp b => (match findB S.bs b with
          | some (.mp es) => (match lkM es n with
            | some x => .ok (cond ok (.tup [x, .bool true]) x)
            | none => .ok (cond ok (.tup [ofV z, .bool false]) (ofV z)))
          | _ => .no 73)
        | _ => .no 74)
      | none => .no 75)
    | _ => .no 76)
  | _ => .no 77
def xLen (S : XS) (ats : List TypeId) (xs : List X) : R X := match ats, xs with
  | [t], [x] => (match P.underlying t with
    | some (.slice _) => (match x with
      | .lit (.slice none n _) => .ok (.int .i64 n)
      | .sl _ _ n _ => .ok (.int .i64 n)
      | .so _ _ n _ => .ok (.int .i64 n)
      | .se _ _ _ _ => .ok (.int .i64 0)
      | _ => .no 78)
    | some (.map _ _) => (match x with
      | .mp b => (match findB S.bs b with
        | some (.mp es) => .ok (.int .i64 es.length)
        | _ => .no 79)
      | _ => .no 80)
    | _ => .no 81)
  | _, _ => .no 82
def xExt (x : X) (i : Nat) : R X := match x with
  | .tup xs => R.of xs[i]? 83
  | _ => .no 84
def flat1 : X → Bool
  | .lit (.agg _) => false
  | .un => false
  | .no => false
  | _ => true
def xBuild (t : TypeId) (parts : List (Nat × X)) : R X := need (allB (fun p => flat1 p.2) parts) 89 <| match P.underlying t with
  | some (.struct fs) => cond (knownAll P fs.toList) (match P.info? t with
    | some i => (match i.zero with
      | some z => (R.of (xFill (fun i => (placesOf P fs.toList)[i]?) (z.cells.toList.map of1) parts) 85).bind fun cs => .ok (.agg cs)
      | none => .no 86)
    | none => .no 87) (.no 88)
  | some (.array n e) => (match P.info? t, P.info? e with
    | some i, some ie => (match i.zero with
      | some z => (R.of (xFill (fun i => some (i * ie.size, ie.size)) (z.cells.toList.map of1) parts) 85).bind fun cs => .ok (.agg cs)
      | none => .no 86)
    | _, _ => .no 87)
  | _ => .no 89
def xMM2 (mx : Bool) : X → X → R X
  | .int .i64 a, .int .i64 b => intK (cond mx (cond (decide (b > a)) b a) (cond (decide (b < a)) b a)) fun n => .ok (.int .i64 n)
  | a, b => R.of (GL.mm mx a b) 90
def xMMa (mx : Bool) : X → List X → R X
  | a, [] => .ok a
  | a, b :: r => (xMM2 GL mx a b).bind fun z => xMMa mx z r
def xMM (mx : Bool) : List X → R X
  | a :: r => need (isX a) 90 (need (allB isX r) 90 (xMMa GL mx a r))
  | _ => .no 90
/-- What an operation that only reads yields. -/
def xRead (o : Oper) (E : XE) (S : XS) : R X := match o.op with
  | .pick c a b => (match opX E c with
    | .bool true => need (isX (opX E a)) 91 (.ok (opX E a))
    | .bool false => need (isX (opX E b)) 92 (.ok (opX E b))
    | _ => .no 93)
  | .build t parts => xBuild P t (parts.toList.map fun p => (p.1, opX E p.2))
  | .load t a => xLoad P GL S t (opX E a)
  | .nilCheck x => xNil (opX E x)
  | .binOp op t x y _ => xBin P GL op t (opX E x) (opX E y)
  | .unOp op _ x => xUn op (opX E x)
  | .convert src dst x => xConv P GL src dst (opX E x)
  | .makeFunc f first captured => need (allB isX (first.toList.map (opX E))) 94 (need (allB isX (captured.toList.map (opX E))) 94 (.ok (.fn f (first.toList.map (opX E)) (captured.toList.map (opX E)))))
  | .slice t x lo hi mx => xSlice P t (opX E x) (lo.map (opX E)) (hi.map (opX E)) (mx.map (opX E))
  | .fieldAddr s x f => xFA P s (opX E x) f
  | .field t x f => xField P t (opX E x) f
  | .indexAddr t x ix => xIndexAddr P t (opX E x) (opX E ix)
  | .index t x ix => xIndex P t (opX E x) (opX E ix)
  | .lookup t x ix ok => xLookup P S t (opX E x) (opX E ix) ok
  | .extract t ix => xExt (opX E t) ix
  | .call c => (match c.callee with
    | .builtin .len => xLen P S c.argTypes.toList (c.args.toList.map (opX E))
    | .builtin .max => xMM GL true (c.args.toList.map (opX E))
    | .builtin .min => xMM GL false (c.args.toList.map (opX E))
    | _ => .no 94)
  | _ => .no 95
/-- Which blocks it reads. -/
def xNames (o : Oper) (E : XE) : List Nat := match o.op with
  | .load _ a => (match opX E a with | .ptr b _ => [b] | _ => [])
  | .lookup _ x _ _ => (match opX E x with | .mp b => [b] | _ => [])
  | .call c => (match c.args.toList.map (opX E) with | [.mp b] => [b] | _ => [])
  | _ => []

/-! ### What does more -/
def xStore (S : XS) (t : TypeId) (a x : X) : R XS := match P.info? t with
  | some i => need (Nat.beq (xcells x).length i.size) 100 (need (allB one1 (xcells x)) 101 (match a with
    | .ptr b o => (match findB S.bs b with
      | some (.bl t' op cs) => need (Nat.ble (o + i.size) cs.length) 102 (S.updK b (.bl t' op (ow cs o (xcells x))) fun S1 => .ok S1)
      | _ => .no 103)
    | _ => .no 104))
  | none => .no 105
def xElem (t : TypeId) : R (TypeId × TypeInfo × Value) := match P.underlying t with
  | some (.slice e) => (match P.info? e with
    | some i => (match i.zero with | some z => .ok (e, i, z) | none => .no 106)
    | none => .no 107)
  | _ => .no 108
/-- The elements that an append takes. -/
def xSrc (S : XS) (es : Nat) (x : X) : R (Nat × List X) := match x with
  | .lit (.slice none 0 0) => .ok (0, [])
  | .sl b o n _ => (match findB S.bs b with | some (.bl _ _ cs) => need (Nat.ble (o + n * es) cs.length) 109 (.ok (n, (cs.drop o).take (n * es))) | _ => .no 110)
  | .so b o n _ => (match findB S.bs b with | some (.bl _ _ cs) => need (Nat.ble (o + n * es) cs.length) 111 (.ok (n, (cs.drop o).take (n * es))) | _ => .no 112)
  | .se b o1 o2 _ => .ok (0, [])
  | _ => .no 113
def xApp (S : XS) (e es bytes : Nat) (s x : X) : R (X × XS) := (xSrc S es x).bind fun nn =>
  need (Nat.blt 0 es) 114 (cond (Nat.beq nn.1 0) (match s with
    | .lit (.slice none 0 0) => .ok (s, S)
    | .sl _ _ _ _ => .ok (s, S)
    | .so _ _ _ _ => .ok (s, S)
    | .se _ _ _ _ => .ok (s, S)
    | _ => .no 115)
  (need (allB one1 nn.2) 116 (match s with
    | .lit (.slice none 0 0) => need (Nat.ble (nn.1 * bytes) 140737488355328) 117 (need (Nat.blt nn.1 4611686018427387904) 117 (S.addK (.bl e (some es) nn.2) fun S1 => .ok (.so S.nx 0 nn.1 0, S1)))
    | .sl b o len cap => (match findB S.bs b with
      | some (.bl t op cs) => need (Nat.ble (o + len * es) cs.length) 118 (cond (Nat.ble (len + nn.1) cap)
          (need (Nat.ble (o + len * es + nn.2.length) cs.length) 119 (S.updK b (.bl t op (ow cs (o + len * es) nn.2)) fun S1 => .ok (.sl b o (len + nn.1) cap, S1)))
          (need (Nat.ble ((len + nn.1) * bytes) 140737488355328) 120 (need (Nat.blt (len + nn.1) 4611686018427387904) 120 (S.addK (.bl e (some es) ((cs.drop o).take (len * es) ++ nn.2)) fun S1 => .ok (.so S.nx 0 (len + nn.1) 0, S1)))))
      | _ => .no 121)
    | .so b o len k => (match findB S.bs b with
      | some (.bl t (some es') cs) => need (Nat.beq es' es) 122 (need (Nat.beq t e) 123 (need (Nat.beq o (k * es)) 124 (need (Nat.ble (o + len * es) cs.length) 125
          (cond (Nat.ble (o + len * es + nn.2.length) cs.length)
            (S.updK b (.bl t (some es) (ow cs (o + len * es) nn.2)) fun S1 => .ok (.so b o (len + nn.1) k, S1))
            (need (Nat.ble ((len + nn.1) * bytes) 140737488355328) 126 (need (Nat.blt (len + nn.1) 4611686018427387904) 126 (S.delK b fun S0 => S0.addK (.bl e (some es) ((cs.drop o).take (len * es) ++ nn.2)) fun S1 => .ok (.so S.nx 0 (len + nn.1) 0, S1))))))))
      | _ => .no 127)
    | .se b _ o k => (match findB S.bs b with
      | some (.bl t (some es') cs) => need (Nat.beq es' es) 128 (need (Nat.beq t e) 129 (need (Nat.beq o (k * es)) 130 (need (Nat.ble o cs.length) 131
          (need (Nat.ble (nn.1 * bytes) 140737488355328) 132 (need (Nat.blt nn.1 4611686018427387904) 132 (S.delK b fun S0 => S0.addK (.bl e (some es) nn.2) fun S1 => .ok (.so S.nx 0 nn.1 0, S1)))))))
      | _ => .no 133)
    | _ => .no 134)))
def xAppend (S : XS) (ats : List TypeId) (xs : List X) : R (X × XS) := match ats, xs with
  | [t, t'], [s, x] => cond (isSl P t') ((xElem P t).bind fun e => need (Nat.beq e.2.2.cells.size e.2.1.size) 135 (xApp S e.1 e.2.1.size e.2.1.bytes s x)) (.no 136)
  | _, _ => .no 137
def xNat : X → R Nat
  | .int _ (.ofNat n) => .ok n
  | _ => .no 138
def xDelete (S : XS) (t : TypeId) (m kk : X) : R (X × XS) := match m, kk with
  | .mp b, .int .i64 n => (match P.underlying t with
    | some (.map kt _) => need (isI64 P kt) 154 (match findB S.bs b with
      | some (.mp es) => S.updK b (.mp (delM es n)) fun S1 => .ok (.tup [], S1)
      | _ => .no 155)
    | _ => .no 156)
  | _, _ => .no 157
def xClear (S : XS) (ats : List TypeId) (xs : List X) : R (X × XS) := match ats, xs with
  | [t], [x] => (xElem P t).bind fun e => (match x with
    | .lit (.slice none 0 0) => .ok (.tup [], S)
    | .sl b o n _ => cond (Nat.beq n 0) (.ok (.tup [], S)) (match findB S.bs b with
      | some (.bl t op cs) => need (Nat.ble (o + n * e.2.2.cells.size) cs.length) 210 (need (allB Value.oneCell' e.2.2.cells.toList) 211 (S.updK b (.bl t op (ow cs o ((Builtin.zeroCells e.2.2.cells n).toList.map of1))) fun S1 => .ok (.tup [], S1)))
      | _ => .no 212)
    | .so b o n _ => cond (Nat.beq n 0) (.ok (.tup [], S)) (match findB S.bs b with
      | some (.bl t op cs) => need (Nat.ble (o + n * e.2.2.cells.size) cs.length) 210 (need (allB Value.oneCell' e.2.2.cells.toList) 211 (S.updK b (.bl t op (ow cs o ((Builtin.zeroCells e.2.2.cells n).toList.map of1))) fun S1 => .ok (.tup [], S1)))
      | _ => .no 212)
    | .se _ _ _ _ => .ok (.tup [], S)
    | _ => .no 213)
  | _, _ => .no 214
def xMapUpd (S : XS) (t : TypeId) (m k x : X) : R (X × XS) := match P.underlying t with
  | some (.map kt _) => need (isI64 P kt) 148 (match m, k with
    | .mp b, .int .i64 n => (match findB S.bs b with
      | some (.mp es) => need (isX x) 149 (S.updK b (.mp (upM es n x)) fun S1 => .ok (.un, S1))
      | _ => .no 150)
    | _, _ => .no 151)
  | _ => .no 152
def xMapEntry (S : XS) (t : TypeId) (m k : X) : R (X × XS) := match P.underlying t with
  | some (.map kt et) => need (isI64 P kt) 221 (match m, k with
    | .mp b, .int .i64 n => (match findB S.bs b with
      | some (.mp es) => (match (P.info? et).bind (·.zero) with
        | some z => S.updK b (.ms (upM es n ((lkM es n).getD (ofV z))) n S.nx) fun S1 => natK (S.nx + 1) fun m => .ok (.tup [(lkM es n).getD (ofV z), .stp S.nx], ⟨m, S1.bs⟩)
        | none => .no 222)
      | _ => .no 223)
    | _, _ => .no 224)
  | _ => .no 225
def xEntryStore (S : XS) (m s x : X) : R (X × XS) := match m, s with
  | .mp b, .stp q => (match findB S.bs b with
    | some (.ms es k q') => need (Nat.beq q q') 226 (need (isX x) 227 (S.updK b (.mp (upM es k x)) fun S1 => .ok (.un, S1)))
    | _ => .no 228)
  | _, _ => .no 229
def xRange (S : XS) (t : TypeId) (m : X) : R (X × XS) := match P.underlying t with
  | some (.map kt _) => need (isI64 P kt) 230 (match m with
    | .mp b => (match findB S.bs b with
      | some (.mp es) => S.delK b fun S0 => S0.addK (.mi b es [] none) fun S1 => .ok (.ptr S.nx 0, S1)
      | _ => .no 231)
    | _ => .no 232)
  | _ => .no 233
def xNext (S : XS) (it : X) (isS : Bool) : R (X × XS) := cond isS (.no 234) (match it with
  | .ptr r 0 => (match findB S.bs r with
    | some (.mi b es seen _) => (match restM seen es with
      | [] => S.delK r fun S1 => .ok (.tup [.bool false], ⟨S.nx, (b, .mp es) :: S1.bs⟩)
      | [(k, x)] => S.updK r (.mi b es (k :: seen) (some (k, x))) fun S1 => .ok (.tup [.bool true, .int .i64 k, x], S1)
      | _ => .no 235)
    | _ => .no 236)
  | _ => .no 237)
def xEntry (S : XS) (it : X) : R (X × XS) := match it with
  | .ptr r 0 => (match findB S.bs r with
    | some (.mi _ _ _ (some (k, x))) => .ok (.tup [.int .i64 k, x], S)
    | _ => .no 238)
  | _ => .no 239
/-- What an operation yields, and what is there then. -/
def xOp (cl : Bool → Nat → List X → XS → R (X × XS)) (o : Oper) (E : XE) (S : XS) : R (X × XS) := match o.op with
  | .move x => .ok (opX E x, S)
  | .assign x => .ok (opX E x, S)
  | .alloc t => (match P.info? t with
    | some i => (match i.zero with
      | some z => S.addK (.bl t none (z.cells.toList.map of1)) fun S1 => .ok (.ptr S.nx 0, S1)
      | none => .no 140)
    | none => .no 141)
  | .box t x => need (flat1 (opX E x)) 142 (S.addK (.bl t none (xcells (opX E x))) fun S1 => .ok (.ptr S.nx 0, S1))
  | .buildSlice t len parts => (xElem P t).bind fun e => need (Nat.ble (len * e.2.1.size) 16777216) 143 <| need (allB (fun p => flat1 p.2) (parts.toList.map fun p => (p.1, opX E p.2))) 143
      ((R.of (xFill (fun i => some (i * e.2.1.size, e.2.1.size)) ((rowZ e.2.2.cells (len * e.2.1.size)).toList.map of1) (parts.toList.map fun p => (p.1, opX E p.2))) 144).bind fun cs =>
        S.addK (.bl e.1 none cs) fun S1 => .ok (.sl S.nx 0 len len, S1))
  | .store t a x => (xStore P S t (opX E a) (opX E x)).bind fun S => .ok (.un, S)
  | .makeMap _ none => S.addK (.mp []) fun S1 => .ok (.mp S.nx, S1)
  | .makeSlice t l c => (xElem P t).bind fun e => (xNat (opX E l)).bind fun l => (xNat (opX E c)).bind fun c => need (Nat.ble l c) 145 (need (Nat.ble (e.2.1.bytes * c) 281474976710656) 146 (need (Nat.ble c 9223372036854775807) 147
      (S.addK (.bl e.1 none ((madeCells e.2.2.cells (c * e.2.1.size)).toList.map of1)) fun S1 => .ok (.sl S.nx 0 l c, S1))))
  | .mapUpdate t m k x => xMapUpd P S t (opX E m) (opX E k) (opX E x)
  | .insert t m k x => xMapUpd P S t (opX E m) (opX E k) (opX E x)
  | .mapEntry t m k => xMapEntry P S t (opX E m) (opX E k)
  | .entryStore _ m s x => xEntryStore S (opX E m) (opX E s) (opX E x)
  | .range t x => xRange P S t (opX E x)
  | .next it isS => xNext S (opX E it) isS
  | .entry it => xEntry S (opX E it)
  | .call c => (match c.callee with
    | .value f => (match opX E f with
      | .fn (.func k) a cs => need (allB isX (c.args.toList.map (opX E))) 153 (cl true k (a ++ c.args.toList.map (opX E) ++ cs) S)
      | .yld b => need (allB isX (c.args.toList.map (opX E))) 153 (cl false b (c.args.toList.map (opX E)) S)
      | _ => .no 153)
    | .builtin .append => xAppend P S c.argTypes.toList (c.args.toList.map (opX E))
    | .builtin .delete => (match c.argTypes.toList, c.args.toList.map (opX E) with
      | [t, _], [m, kk] => xDelete P S t m kk
      | _, _ => .no 157)
    | .builtin .clear => xClear P S c.argTypes.toList (c.args.toList.map (opX E))
    | _ => (xRead P GL o E S).bind fun x => .ok (x, S))
  | _ => (xRead P GL o E S).bind fun x => .ok (x, S)
def putX (E : XE) (d : Option Nat) (x : X) : XE := match d with | some d => (d, x) :: E | none => E
def xOps (cl : Bool → Nat → List X → XS → R (X × XS)) (all : List Oper) : List Oper → XE → XS → R (XE × XS)
  | [], E, S => .ok (E, S)
  | o :: r, E, S => match o.guard with
    | none => (xOp P GL cl o E S).bind fun p => force2 p.1 fun x => xOps cl all r (putX E o.dst x) p.2
    | some (j, b) => match dstAt all j with
      | some g => (match getE E g with
        | .bool c => cond (c == b) ((xOp P GL cl o E S).bind fun p => force2 p.1 fun x => xOps cl all r (putX E o.dst x) p.2)
            (xOps cl all r (putX E o.dst .no) S)
        | .no => xOps cl all r (putX E o.dst .no) S
        | _ => .no 160)
      | none => .no 161
/-! ### Drawn regions -/
def xRd (all : List Oper) (M : Nat) (S : XS) : List Oper → Nat → XE → R XE
  | [], _, E => .ok E
  | o :: r, p, E => cond (M.testBit p) (xRd all M S r (p + 1) E) (match o.guard with
    | none => (cond (pureOp o) ((xOp P GL (fun _ _ _ _ => .no 0) o E S).bind fun p => .ok p.1) (xRead P GL o E S)).bind fun x => force2 x fun x => xRd all M S r (p + 1) (putX E o.dst x)
    | some (j, b) => match dstAt all j with
      | some g => (match getE E g with
        | .bool c => cond (c == b) ((cond (pureOp o) ((xOp P GL (fun _ _ _ _ => .no 0) o E S).bind fun p => .ok p.1) (xRead P GL o E S)).bind fun x => force2 x fun x => xRd all M S r (p + 1) (putX E o.dst x))
            (xRd all M S r (p + 1) (putX E o.dst .no))
        | .no => xRd all M S r (p + 1) (putX E o.dst .no)
        | _ => .no 162)
      | none => .no 163)
def namesR (M : Nat) (E : XE) : List Oper → Nat → List Nat
  | [], _ => []
  | o :: r, p => cond (M.testBit p) (namesR M E r (p + 1)) (xNames o E ++ namesR M E r (p + 1))
def beq0 : X → X → Bool
  | .int k a, .int k' b => cond (decide (k = k')) (decide (a = b)) false
  | .bool a, .bool b => decide (a = b)
  | .lit (.pointer none), .lit (.pointer none) => true
  | .lit (.slice none a b), .lit (.slice none c d) => cond (Nat.beq a c) (Nat.beq b d) false
  | .lit (.map none), .lit (.map none) => true
  | .ptr a b, .ptr c d => cond (Nat.beq a c) (Nat.beq b d) false
  | .gp a b, .gp c d => cond (Nat.beq a c) (Nat.beq b d) false
  | .sl a b c d, .sl a' b' c' d' => cond (Nat.beq a a') (cond (Nat.beq b b') (cond (Nat.beq c c') (Nat.beq d d') false) false) false
  | .so a b c d, .so a' b' c' d' => cond (Nat.beq a a') (cond (Nat.beq b b') (cond (Nat.beq c c') (Nat.beq d d') false) false) false
  | .se a b c d, .se a' b' c' d' => cond (Nat.beq a a') (cond (Nat.beq b b') (cond (Nat.beq c c') (Nat.beq d d') false) false) false
  | .mp a, .mp b => Nat.beq a b
  | .sym a b, .sym c d => cond (Nat.beq a c) (Nat.beq b d) false
  | _, _ => false
def beqL0 : List X → List X → Bool
  | [], [] => true
  | x :: r, y :: s => cond (beq0 x y) (beqL0 r s) false
  | _, _ => false
def beqX : X → X → Bool
  | .agg xs, .agg ys => beqL0 xs ys
  | x, y => beq0 x y
def beqL : List X → List X → Bool
  | [], [] => true
  | x :: r, y :: s => cond (beqX x y) (beqL r s) false
  | _, _ => false
def beqM : List (Int × X) → List (Int × X) → Bool
  | [], [] => true
  | (k, x) :: r, (k', y) :: s => cond (decide (k = k')) (cond (beqX x y) (beqM r s) false) false
  | _, _ => false
def beqB : XB → XB → Bool
  | .bl t op cs, .bl t' op' cs' => cond (Nat.beq t t') (cond (decide (op = op')) (beqL cs cs') false) false
  | .mp es, .mp es' => beqM es es'
  | _, _ => false
def keeps (bs : List (Nat × XB)) : List (Nat × XB) → Bool
  | [] => true
  | (b, x) :: r => match findB bs b with
    | some y => cond (beqB x y) (keeps (delB bs b) r) false
    | none => false
def keepN (ns : List Nat) : List (Nat × XB) → List (Nat × XB)
  | [] => []
  | (b, x) :: r => cond (hasN ns b) ((b, x) :: keepN ns r) (keepN ns r)
def noUn : X → X
  | .no => .un
  | x => x
def baseE (md : List Nat) : XE → XE
  | [] => []
  | (i, x) :: r => cond (hasN md i) (baseE md r) ((i, x) :: baseE md r)
def liveE (E : XE) : List Nat → XE → XE
  | [], B => B
  | i :: r, B => liveE E r ((i, noUn (getE E i)) :: B)
def baseK {β : Type} (md : List Nat) : XE → (XE → R β) → R β
  | [], k => k []
  | (i, x) :: r, k => cond (hasN md i) (baseK md r k) (baseK md r fun r => k ((i, x) :: r))
theorem baseK_eq {β : Type} (md : List Nat) : ∀ (E : XE) (k : XE → R β), baseK md E k = k (baseE md E)
  | [], _ => rfl
  | (i, x) :: r, k => by
    unfold baseK baseE
    cases hasN md i with
    | true => simp only [cond_true]; rw [baseK_eq md r]
    | false => simp only [cond_false]; rw [baseK_eq md r]
def liveK {β : Type} (E : XE) : List Nat → XE → (XE → R β) → R β
  | [], B, k => k B
  | i :: r, B, k => force2 (noUn (getE E i)) fun x => liveK E r ((i, x) :: B) k
theorem liveK_eq {β : Type} (E : XE) : ∀ (l : List Nat) (B : XE) (k : XE → R β), liveK E l B k = k (liveE E l B)
  | [], _, _ => rfl
  | i :: r, B, k => by unfold liveK liveE; rw [force2_eq, liveK_eq E r]
/-! What may be done ahead of its turn (it reads no memory), and what as late as may be (new variables). -/
def isA (x : Nat × Oper) : Bool := match x.2.guard with
  | none => (match x.2.op with | .alloc _ => true | _ => false)
  | some _ => false
def nonA : List (Nat × Oper) → List (Nat × Oper)
  | [] => []
  | x :: r => cond (isA x) (nonA r) (x :: nonA r)
def onlyA : List (Nat × Oper) → List (Nat × Oper)
  | [] => []
  | x :: r => cond (isA x) (x :: onlyA r) (onlyA r)
def firstD (B : List Nat) (x : Nat × Oper) : List (Nat × Oper) → Option (Nat × Oper)
  | [] => none
  | a :: r => cond (dep B a.1 x.1) (cond (Nat.beq a.1 x.1) (firstD B x r) (some a)) (firstD B x r)
def anyNeed (B : List Nat) (M : Nat) (s : List Oper) (m : Nat) : List (Nat × Oper) → Bool
  | [] => false
  | a :: r => cond (needI B M a.1 s m) true (anyNeed B M s m r)
def dstsA : List (Nat × Oper) → List Nat
  | [] => []
  | a :: r => a.2.dst.toList ++ dstsA r
def dstIn (l : List Nat) (y : Nat × Oper) : Bool := match y.2.dst with
  | none => false
  | some d => hasN l d
/-- None of them but x yields d. -/
def noDst (d p : Nat) : List (Nat × Oper) → Bool
  | [] => true
  | y :: r => cond (Nat.beq y.1 p) (noDst d p r) (cond (dstIn [d] y) false (noDst d p r))
def allocOk (U : List (Nat × Oper)) (a : Nat × Oper) : Bool := match a.2.op with
  | .alloc t => (match P.info? t with
    | some i => (match i.zero with
      | some _ => (match a.2.dst with | some d => noDst d a.1 U | none => false)
      | none => false)
    | none => false)
  | _ => false
/-- It reads no memory. -/
def envOp (o : Oper) : Bool := match o.guard with
  | some _ => false
  | none => match o.op with
    | .move _ => true
    | .assign _ => true
    | .pick _ _ _ => true
    | .build _ _ => true
    | .nilCheck _ => true
    | .binOp _ _ _ _ _ => true
    | .unOp _ _ _ => true
    | .convert _ _ _ => true
    | .slice _ _ _ _ _ => true
    | .fieldAddr _ _ _ => true
    | .field _ _ _ => true
    | .indexAddr _ _ _ => true
    | .index _ _ _ => true
    | .extract _ _ => true
    | _ => false
abbrev XG := List ((Nat × Oper) × XE)
def pickEs (E : XE) : List Nat → XE
  | [] => []
  | i :: r => (i, getE E i) :: pickEs E r
/-- x yields nothing that those read or yield. -/
def clearG (x : Nat × Oper) : XG → Bool
  | [] => true
  | g :: r => cond (dstIn (readsOf g.1.2) x) false (cond (dstIn g.1.2.dst.toList x) false (clearG x r))
/-- x hangs on those of them whose yield it reads. -/
def hangG (B : List Nat) (x : Nat × Oper) : XG → Bool
  | [] => true
  | g :: r => cond (dstIn (readsOf x.2) g.1) (cond (dep B g.1.1 x.1) (hangG B x r) false) (hangG B x r)
def leftG (B : List Nat) (x : Nat × Oper) : XG → XG
  | [] => []
  | g :: r => cond (dep B g.1.1 x.1) (leftG B x r) (g :: leftG B x r)
def opsG : XG → List (Nat × Oper)
  | [] => []
  | g :: r => g.1 :: opsG r
def firstE (B : List Nat) (al : List (Nat × Oper)) : List (Nat × Oper) → Option (Nat × Oper)
  | [] => none
  | x :: r => cond (envOp x.2) (match firstD B x al with | none => some x | some _ => firstE B al r) (firstE B al r)
/-- What is done next: out of turn; in turn. -/
inductive Nx where
  | early (x : Nat × Oper)
  | turn (x : Nat × Oper)
  | late (x : Nat × Oper)
  | no
def nextOp (B : List Nat) (U : List (Nat × Oper)) : Nx := match fronts B (nonA U) (nonA U) with
  | [] => (match nonA U with | [] => (match onlyA U with | a :: _ => .late a | [] => .no) | _ => .no)
  | [x] => (match firstD B x (onlyA U) with | none => .turn x | some a => .late a)
  | l => (match firstE B (onlyA U) l with | some x => .early x | none => .no)
def xTurn (cl : Bool → Nat → List X → XS → R (X × XS)) (all : List Oper) (x : Oper) (E : XE) (S : XS) : XG → R (XE × XS)
  | [] => xOps P GL cl all [x] E S
  | G => baseK (dstsA (opsG G)) E fun Em => (xOps P GL cl all [x] Em S).bind fun q => .ok (match x.dst with | some d => (d, getE q.1 d) :: E | none => E, q.2)
def xCh (cl : Bool → Nat → List X → XS → R (X × XS)) (all : List Oper) (B : List Nat) (M : Nat) (kp : List (Nat × XB)) (s : List Oper) (m : Nat) : Nat → XG → List (Nat × Oper) → XE → XS → R (XE × XS)
  | 0, _, U, E, S => match U with | [] => .ok (E, S) | _ => .no 164
  | n + 1, G, U, E, S => match U with
    | [] => .ok (E, S)
    | _ => match nextOp B U with
      | .early x => need (cond (dstIn (readsOf x.2) x) false (cond (clearG x G) (hangG B x G) false)) 169 ((xOp P GL cl x.2 (pickEs E (readsOf x.2)) S).bind fun q => force2 q.1 fun y =>
          need (cond (needI B M x.1 s m) (keeps S.bs kp) true) 165 (xCh cl all B M kp s m n ((x, pickEs E (readsOf x.2)) :: G) (dropU x.1 U) (putX E x.2.dst y) S))
      | .turn x => need (clearG x (leftG B x G)) 169 ((xTurn P GL cl all x.2 E S (leftG B x G)).bind fun q =>
          need (cond (cond (needI B M x.1 s m) true (cond (anyNeed B M s m (onlyA (dropU x.1 U))) true (anyNeed B M s m (opsG (leftG B x G))))) (keeps q.2.bs kp) true) 165 (xCh cl all B M kp s m n (leftG B x G) (dropU x.1 U) q.1 q.2))
      | .late x => need (clearG x G) 169 ((xOps P GL cl all [x.2] E S).bind fun q =>
          need (cond (cond (anyNeed B M s m (onlyA (dropU x.1 U))) true (anyNeed B M s m (opsG G))) (keeps q.2.bs kp) true) 165 (xCh cl all B M kp s m n G (dropU x.1 U) q.1 q.2))
      | .no => .no 166
def xSeg (cl : Bool → Nat → List X → XS → R (X × XS)) (all : List Oper) (B : List Nat) (s : List Oper) (m M : Nat) (E : XE) (S : XS) : R (XE × XS) :=
  need (segOk B M m s.length) 167 (match chL M s m with
    | [] => (xRd P GL all M S s m E).bind fun E => .ok (E, S)
    | U => need (allB (allocOk P U) (onlyA U)) 168 ((xRd P GL all M S s m E).bind fun E1 =>
        (xRd P GL all M ⟨S.nx, keepN (namesR M E1 s m) S.bs⟩ s m E).bind fun E2 => baseK (dstsA (onlyA U)) E2 fun E2 => need (cond (anyNeed B M s m (onlyA U)) (keeps S.bs (keepN (namesR M E1 s m) S.bs)) true) 165 (xCh P GL cl all B M (keepN (namesR M E1 s m) S.bs) s m U.length [] U E2 S)))
def xJoin (B : List Nat) (A : List Nat) (s : List Oper) (m M : Nat) (E : XE) (r : XE × XS) (k : XE → XS → R (XE × XS)) : R (XE × XS) := cond (rowB B (chL M s m)) (k r.1 r.2)
  (baseK (dsts s) E fun Bs => liveK r.1 (liveL (dsts s) A) Bs fun E => k E r.2)
def xDr (cl : Bool → Nat → List X → XS → R (X × XS)) (all : List Oper) (B A : List Nat) : List (List Oper) → Nat → XE → XS → R (XE × XS)
  | [], _, E, S => .ok (E, S)
  | [o] :: r, m, E, S => (xOps P GL cl all [o] E S).bind fun q => xDr cl all B A r (m + 1) q.1 q.2
  | s :: r, m, E, S => (xSeg P GL cl all B s m (chs B s m 0) E S).bind fun q => xJoin B (ueOps all r.flatten [] ++ A) s m (chs B s m 0) E q fun E S => xDr cl all B A r (m + s.length) E S

/-! ### Codes -/
def xIter (body : XE → XS → R (Exit × XE × XS)) (lv : List Nat) (base : XE) : Nat → XE → XS → R (Exit × XE × XS)
  | 0, _, _ => .no 170
  | n + 1, E, S => (body E S).bind fun r => match r.1 with
    | .normal => liveK r.2.1 lv base fun E => xIter body lv base n E r.2.2
    | _ => .ok r
def exHas : List Nat → Nat → Bool
  | [], _ => false
  | x :: r, i => cond (Nat.beq i x) true (exHas r i)
def addMk : X → X → X
  | .tup xs, m => .tup (m :: xs)
  | _, _ => .un
def xCode (cl : Bool → Nat → List X → XS → R (X × XS)) (n : Nat) (lf : Nat) (inR : Bool) : Code → List Nat → XE → XS → R (Exit × XE × XS)
  | .skip, _, E, S => .ok (.normal, E, S)
  | .label _, _, E, S => .ok (.normal, E, S)
  | .ret, _, E, S => .ok (.ret, E, S)
  | .exit i, _, E, S => .ok (.exit i, E, S)
  | .region _ ops false, _, E, S => (xOps P GL cl ops.toList ops.toList E S).bind fun q => .ok (.normal, q.1, q.2)
  | .region _ ops true, A, E, S => need (drawOk ops.toList) 171 ((xDr P GL cl ops.toList (bef ops.toList []) A (segs (bef ops.toList []) ops.toList 0 []) 0 E S).bind fun q => .ok (.normal, q.1, q.2))
  | .seq a b, A, E, S => (xCode cl n lf inR a (ue b ++ A) E S).bind fun r => match r.1 with
    | .normal => cond (joinN a b) (baseK (mods a) E fun B => liveK r.2.1 (liveL (mods a) (ue b ++ A)) B fun E => xCode cl n lf inR b A E r.2.2) (xCode cl n lf inR b A r.2.1 r.2.2)
    | _ => .ok r
  | .cond c a b, A, E, S => (match opX E c with
    | .bool true => xCode cl n lf inR a A E S
    | .bool false => xCode cl n lf inR b A E S
    | _ => .no 172)
  | .block id c, A, E, S => (xCode cl n lf inR c A E S).bind fun r => match r.1 with
    | .exit i => .ok (cond (Nat.beq i id) .normal (.exit i), r.2)
    | _ => .ok r
  | .scope c, A, E, S => xCode cl n lf inR c A E S
  | .loop c, A, E, S => baseK (mods c) E fun B => liveK E (liveL (mods c) (ue c ++ A)) B fun E1 => xIter (fun E S => xCode cl n lf inR c (ue c ++ A) E S) (liveL (mods c) (ue c ++ A)) B lf E1 S
  | .rangeFunc f ps a b, _, E, S => cond inR (.no 173) (match opX E f with
    | .fn (.func k) [] caps => ((S.addK .df fun S1 => S1.addK (.lp ⟨ps.toList, a, b, E, n⟩ .ready .none) fun S2 => cl true k (.yld (S.nx + 1) :: caps) S2)).bind fun r =>
        match findB r.2.bs (S.nx + 1) with
        | some (.lp _ st p) => need (decide (st ≠ .busy)) 174 (match p with
          | .none => r.2.delK (S.nx + 1) fun S3 => force2 (addMk (getE E MK) (.ptr S.nx 0)) fun m => .ok (.normal, (MK, m) :: E, S3)
          | .ret => r.2.delK (S.nx + 1) fun S3 => force2 (addMk (getE E MK) (.ptr S.nx 0)) fun m => .ok (.ret, (MK, m) :: E, S3)
          | .exit i => need (exHas (exitsOf b) i) 175 (r.2.delK (S.nx + 1) fun S3 => force2 (addMk (getE E MK) (.ptr S.nx 0)) fun m => .ok (.exit i, (MK, m) :: E, S3)))
        | _ => .no 176
    | _ => .no 177)
  | _, _, _, _ => .no 178
def argE : List X → Nat → XE
  | [], _ => [(MK, .tup [])]
  | x :: r, i => (i, x) :: argE r (i + 1)
def argK {β : Type} : List X → Nat → (XE → R β) → R β
  | [], _, k => k [(MK, .tup [])]
  | x :: r, i, k => force2 x fun x => natK (i + 1) fun j => argK r j fun E => k ((i, x) :: E)
theorem argK_eq {β : Type} : ∀ (xs : List X) (i : Nat) (k : XE → R β), argK xs i k = k (argE xs i)
  | [], _, _ => rfl
  | x :: r, i, k => by unfold argK argE; rw [force2_eq, natK_eq, argK_eq r]
def parE : List Nat → List X → XE → Option XE
  | [], [], E => some E
  | i :: r, x :: xs, E => parE r xs ((i, x) :: E)
  | _, _, _ => none
def popM : List X → XS → R XS
  | [], S => .ok S
  | .ptr b 0 :: r, S => (match findB S.bs b with | some .df => S.delK b fun S => popM r S | _ => .no 180)
  | _, _ => .no 181
def xRes (S : XS) : List ResultVar → XE → R (List X)
  | [], _ => .ok []
  | .tmp t :: r, E => need (isX (getE E t)) 182 ((xRes S r E).bind fun xs => .ok (getE E t :: xs))
  | .cell t ty :: r, E => (xLoad P GL S ty (getE E t)).bind fun x => (xRes S r E).bind fun xs => .ok (x :: xs)
def tuplX : List X → X
  | [x] => x
  | xs => .tup xs
/-- A call of a function (by its number), or of a loop's yield (by its name). -/
def xRun (intr : Nat → List X → Option (XS → R (X × XS))) (lf : Nat) : Nat → Bool → Nat → List X → XS → R (X × XS)
  | 0, _, _, _, _ => .no 190
  | d + 1, true, k, args, S => (match intr k args with
    | some f => f S
    | none => match P.funcs[k]? with
      | none => .no 191
      | some fn => match fn.body with
        | none => .no 192
        | some c => need (fnOk fn 0) 193 (need (fn.name != "runtime.NumGoroutine") 199 (need (Nat.ble args.length fn.ntmps) 194
          (argK args 0 fun E0 => (xCode P GL (xRun intr lf d) fn.ntmps lf false c (MK :: resTmps fn.results.toList) E0 S).bind fun r =>
            need (match r.1 with | .normal => true | .ret => true | _ => false) 195 (match getE r.2.1 MK with
              | .tup ms => (popM ms r.2.2).bind fun S1 => (xRes P GL S1 fn.results.toList r.2.1).bind fun xs => .ok (tuplX xs, S1)
              | _ => .no 196)))))
  | d + 1, false, l, args, S => force2s args fun args => match findB S.bs l with
    | some (.lp i .ready _) => match parE i.ps args ((MK, .tup []) :: i.E) with
      | none => .no 197
      | some E0 => (xCode P GL (xRun intr lf d) i.n lf true i.a (ue i.b) E0 S).bind fun r => match r.1 with
        | .normal => (match findB r.2.2.bs l with
          | some (.lp _ .ready .none) => (r.2.2.updK l (.lp i .busy .none) fun S2 => xCode P GL (xRun intr lf d) i.n lf true i.b [] r.2.1 S2).bind fun q => (match findB q.2.2.bs l with
            | some (.lp _ _ _) => (match q.1 with
              | .normal => q.2.2.updK l (.lp i .ready .none) fun S3 => .ok (.bool true, S3)
              | .ret => q.2.2.updK l (.lp i .done .ret) fun S3 => .ok (.bool false, S3)
              | .exit j => q.2.2.updK l (.lp i .done (.exit j)) fun S3 => .ok (.bool false, S3)
              | _ => .no 198)
            | _ => .no 200)
          | _ => .no 201)
        | _ => .no 202
    | _ => .no 203
end
end Go.Jac
