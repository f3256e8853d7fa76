/- The combinators at values that are written out. -/
import Derived.Test.YtfehhjjfmbjlfaaGreatDoorSa
namespace Go.Jac
open Go

def iand (k : IntKind) (a b : Int) : Int := k.wrap (BitVec.ofInt k.bits a &&& BitVec.ofInt k.bits b).toNat
def ior (k : IntKind) (a b : Int) : Int := k.wrap (BitVec.ofInt k.bits a ||| BitVec.ofInt k.bits b).toNat
def ixor (k : IntKind) (a b : Int) : Int := k.wrap (BitVec.ofInt k.bits a ^^^ BitVec.ofInt k.bits b).toNat
def iandNot (k : IntKind) (a b : Int) : Int := k.wrap (BitVec.ofInt k.bits a &&& ~~~ BitVec.ofInt k.bits b).toNat
/-- A shift that the kind's bits can hold. -/
def ShOk (b : Int) (k : IntKind) : Prop := 0 ≤ b ∧ b.toNat ≤ k.bits
instance (b : Int) (k : IntKind) : Decidable (ShOk b k) := inferInstanceAs (Decidable (0 ≤ b ∧ b.toNat ≤ k.bits))
section
variable {P : Program} {K : Value → WP} {w : World} {k : IntKind} {a b c : Int}
theorem NilC_p (p : Addr) : NilC (.pointer (some p)) K w = K (.pointer (some p)) w := propext Iff.rfl
theorem NilC_f (f : FuncId) (x y : Array Value) : NilC (.func (.func f) x y) K w = K (.func (.func f) x y) w := propext Iff.rfl
theorem NilC_y (l : Nat) (x y : Array Value) : NilC (.func (.yield l) x y) K w = K (.func (.yield l) x y) w := propext Iff.rfl
theorem FA_p (b o n : Nat) : FA (.pointer (some ⟨b, o, none⟩)) n K w = K (.pointer (some ⟨b, o + n, none⟩)) w := by simp only [FA, add_of]
theorem Ext_t (vs : Array Value) (i : Nat) : Ext (.tuple vs) i K w = (match vs[i]? with | some v => K v w | none => False) := rfl
theorem Ext_20 (a b : Value) : Ext (.tuple #[a, b]) 0 K w = K a w := propext Iff.rfl
theorem Ext_21 (a b : Value) : Ext (.tuple #[a, b]) 1 K w = K b w := propext Iff.rfl
theorem Ext_30 (a b c : Value) : Ext (.tuple #[a, b, c]) 0 K w = K a w := propext Iff.rfl
theorem Ext_31 (a b c : Value) : Ext (.tuple #[a, b, c]) 1 K w = K b w := propext Iff.rfl
theorem Ext_32 (a b c : Value) : Ext (.tuple #[a, b, c]) 2 K w = K c w := propext Iff.rfl
theorem Ext_40 (a b c d : Value) : Ext (.tuple #[a, b, c, d]) 0 K w = K a w := propext Iff.rfl
theorem Ext_41 (a b c d : Value) : Ext (.tuple #[a, b, c, d]) 1 K w = K b w := propext Iff.rfl
theorem Ext_42 (a b c d : Value) : Ext (.tuple #[a, b, c, d]) 2 K w = K c w := propext Iff.rfl
theorem Ext_43 (a b c d : Value) : Ext (.tuple #[a, b, c, d]) 3 K w = K d w := propext Iff.rfl
theorem LenS_s (p : Option Addr) (n c : Nat) : LenS (.slice p n c) K w = K (.int .i64 n) w := propext Iff.rfl
theorem ConvI_i (k k' : IntKind) (n : Int) : ConvI k (.int k' n) K w = K (.int k (k.wrap n)) w := propext Iff.rfl
theorem Cnd_b (c : Bool) (t e : WP) : Cnd (.bool c) t e w = ((c = true → t w) ∧ (c = false → e w)) := by
  apply propext
  constructor
  · rintro ⟨c', h, h1, h2⟩; cases h; exact ⟨h1, h2⟩
  · rintro ⟨h1, h2⟩; exact ⟨c, rfl, h1, h2⟩
theorem Grd_t (c : Bool) (t e : WP) : Grd (.bool c) true t e w = ((c = true → t w) ∧ (c = false → e w)) := by
  apply propext
  constructor
  · rintro ⟨c', h, h1, h2⟩; cases h; exact ⟨h1, h2⟩
  · rintro ⟨h1, h2⟩; exact ⟨c, rfl, h1, h2⟩
theorem Grd_f (c : Bool) (t e : WP) : Grd (.bool c) false t e w = ((c = false → t w) ∧ (c = true → e w)) := by
  apply propext
  constructor
  · rintro ⟨c', h, h1, h2⟩; cases h; exact ⟨h1, h2⟩
  · rintro ⟨h1, h2⟩; exact ⟨c, rfl, h1, h2⟩
theorem BinI_mk {op : BinOp} {k k' : IntKind} {v : Value} (h : intBin op k a k' b = some v) : BinI op (.int k a) (.int k' b) K w = K v w := by
  apply propext
  constructor
  · rintro ⟨_, _, _, _, v', h1, h2, h3, h4⟩
    cases h1; cases h2
    rw [h] at h3; cases h3; exact h4
  · exact fun hk => ⟨_, _, _, _, v, rfl, rfl, h, hk⟩
theorem BinI_add : BinI .add (.int k a) (.int k b) K w = K (.int k (k.wrap (a + b))) w := BinI_mk (by simp [intBin])
theorem BinI_sub : BinI .sub (.int k a) (.int k b) K w = K (.int k (k.wrap (a - b))) w := BinI_mk (by simp [intBin])
theorem BinI_mul : BinI .mul (.int k a) (.int k b) K w = K (.int k (k.wrap (a * b))) w := BinI_mk (by simp [intBin])
theorem BinI_quo (h : (b == 0) = false) : BinI .quo (.int k a) (.int k b) K w = K (.int k (k.wrap (a.tdiv b))) w := BinI_mk (by simp at h; simp [intBin, h])
theorem BinI_rem (h : (b == 0) = false) : BinI .rem (.int k a) (.int k b) K w = K (.int k (a.tmod b)) w := BinI_mk (by simp at h; simp [intBin, h])
theorem BinI_and : BinI .and (.int k a) (.int k b) K w = K (.int k (iand k a b)) w := BinI_mk (by simp [intBin, iand])
theorem BinI_or : BinI .or (.int k a) (.int k b) K w = K (.int k (ior k a b)) w := BinI_mk (by simp [intBin, ior])
theorem BinI_xor : BinI .xor (.int k a) (.int k b) K w = K (.int k (ixor k a b)) w := BinI_mk (by simp [intBin, ixor])
theorem BinI_andNot : BinI .andNot (.int k a) (.int k b) K w = K (.int k (iandNot k a b)) w := BinI_mk (by simp [intBin, iandNot])
theorem BinI_eql : BinI .eql (.int k a) (.int k b) K w = K (.bool (decide (a = b))) w := BinI_mk (by simp [intBin]; rfl)
theorem BinI_neq : BinI .neq (.int k a) (.int k b) K w = K (.bool (!decide (a = b))) w := BinI_mk (by simp [intBin, bne]; rfl)
theorem BinI_lss : BinI .lss (.int k a) (.int k b) K w = K (.bool (decide (a < b))) w := BinI_mk (by simp [intBin])
theorem BinI_leq : BinI .leq (.int k a) (.int k b) K w = K (.bool (decide (a ≤ b))) w := BinI_mk (by simp [intBin])
theorem BinI_gtr : BinI .gtr (.int k a) (.int k b) K w = K (.bool (decide (b < a))) w := BinI_mk (by simp [intBin])
theorem BinI_geq : BinI .geq (.int k a) (.int k b) K w = K (.bool (decide (b ≤ a))) w := BinI_mk (by simp [intBin])
theorem bits_i64 : IntKind.bits .i64 = 64 := rfl
theorem bits_u64 : IntKind.bits .u64 = 64 := rfl
theorem BinI_shl {k' : IntKind} (h : ShOk b k) : BinI .shl (.int k a) (.int k' b) K w = K (.int k (k.wrap (a * 2 ^ b.toNat))) w := BinI_mk (by
  have h2 := h.2; have := h.1
  have : ¬ (b < 0) := by omega
  simp only [intBin, this, if_false, Nat.min_eq_left h2])
theorem BinI_shr {k' : IntKind} (h : ShOk b k) : BinI .shr (.int k a) (.int k' b) K w = K (.int k (a.fdiv (2 ^ b.toNat))) w := BinI_mk (by
  have h2 := h.2; have := h.1
  have : ¬ (b < 0) := by omega
  simp only [intBin, this, if_false, Nat.min_eq_left h2])
theorem Pick_b (c : Bool) (x y : Value) : Pick (.bool c) x y K w = K (cond c x y) w := by cases c <;> rfl
theorem Un_not (c : Bool) : Un .not (.bool c) K w = K (.bool (!c)) w := by
  apply propext
  constructor
  · rintro ⟨v, h, hk⟩
    have := h default default
    simp only [Op.unary, Sem.run_pure, Result.ok.injEq, and_true] at this
    subst this; exact hk
  · exact fun hk => ⟨_, fun _ _ => rfl, hk⟩
theorem Un_neg : Un .neg (.int k a) K w = K (.int k (k.wrap (0 - a))) w := by
  apply propext
  constructor
  · rintro ⟨v, h, hk⟩
    have := h default default
    simp only [Op.unary, Op.intArith, Sem.run_pure, Result.ok.injEq, and_true] at this
    subst this; exact hk
  · exact fun hk => ⟨_, fun _ _ => rfl, hk⟩
theorem EqB_b (n x y : Bool) : EqB n (.bool x) (.bool y) K w = K (.bool (cond n (!(x == y)) (x == y))) w := by
  apply propext
  constructor
  · rintro ⟨_, _, h1, h2, hk⟩; cases h1; cases h2; exact hk
  · exact fun hk => ⟨_, _, rfl, rfl, hk⟩
theorem EqP_mk {n r : Bool} {x y : Value} (h : ptrEq x y = some r) : EqP n x y K w = K (.bool (cond n (!r) r)) w := by
  apply propext
  constructor
  · rintro ⟨r', h', hk⟩; rw [h] at h'; cases h'; exact hk
  · exact fun hk => ⟨r, h, hk⟩
theorem EqP_pn (n : Bool) (p : Addr) : EqP n (.pointer (some p)) (.pointer none) K w = K (.bool n) w := by rw [EqP_mk (r := false) rfl]; cases n <;> rfl
theorem EqP_nn (n : Bool) : EqP n (.pointer none) (.pointer none) K w = K (.bool (!n)) w := by rw [EqP_mk (r := true) rfl]; cases n <;> rfl
theorem EqP_np (n : Bool) (p : Addr) : EqP n (.pointer none) (.pointer (some p)) K w = K (.bool n) w := by rw [EqP_mk (r := false) rfl]; cases n <;> rfl
theorem EqS_mk {m : Nat} {n r : Bool} {xs ys : List Value} (h : intsEq xs ys = some r) (hx : xs.length = m) (hy : ys.length = m) (hk : K (.bool (cond n (!r) r)) w) : EqS m n (.agg xs.toArray) (.agg ys.toArray) K w :=
  ⟨_, _, r, rfl, rfl, by simpa using hx, by simpa using hy, by simpa using h, hk⟩
theorem FnV_c {f : FuncId} {first args caps : Array Value} (he : ∀ args w, (callFunc f args).run P w = .ok (.enter f args) w) (h : Cl P f (first ++ args ++ caps) K w) : FnV P (.func (.func f) first caps) args K w := .inl ⟨he, h⟩
theorem call_of {f : FuncId} {args : Array Value} (he : ∀ args w, (callFunc f args).run P w = .ok (.enter f args) w) (h : Cl P f args K w) : FnV P (.func (.func f) #[] #[]) args K w :=
  .inl ⟨he, by simpa using h⟩
theorem bld_ok {zero : Array Value} {places : List (Nat × Nat)} {parts : Array (Nat × Value)} {cs : Array Value} (h : Instr.fill (fun i => places[i]?) zero parts.toList = some cs) (k : K (.agg cs) w) : Ex P (bldS zero places parts) K w :=
  ⟨_, _, by unfold bldS; rw [h]; rfl, k⟩
theorem ia_ok {es b o len cap : Nat} {k : IntKind} {i : Int} (h0 : 0 ≤ i) (h1 : i < (len : Int)) (hk : K (.pointer (some ⟨b, o + i.toNat * es, none⟩)) w) : IA es (.slice (some ⟨b, o, none⟩) len cap) (.int k i) K w :=
  ⟨_, _, _, _, _, rfl, rfl, h0, h1, by rw [add_of]; exact hk⟩
end

/-! ### Numbers -/
theorem w64 {n : Int} (h0 : -9223372036854775808 ≤ n) (h1 : n ≤ 9223372036854775807) : IntKind.i64.wrap n = n := by
  rw [IntKind.wrap_i64]; omega
def I64 (n : Int) : Prop := -9223372036854775808 ≤ n ∧ n ≤ 9223372036854775807
theorem I64.w {n : Int} (h : I64 n) : IntKind.i64.wrap n = n := w64 h.1 h.2
theorem I64.wrap (n : Int) : I64 (IntKind.i64.wrap n) := by unfold I64; rw [IntKind.wrap_i64]; omega
theorem I64.of_wf {n : Int} (h : (Lit.int .i64 n).wf = true) : I64 n := by
  simp [Lit.wf, IntKind.min, IntKind.max, IntKind.signed, IntKind.bits] at h
  unfold I64
  omega
theorem I64.wf {n : Int} (h : I64 n) : (Lit.int .i64 n).wf = true := by
  unfold I64 at h
  simp [Lit.wf, IntKind.min, IntKind.max, IntKind.signed, IntKind.bits]
  omega
theorem ofInt_nat (a : Int) : (BitVec.ofInt IntKind.i64.bits a).toNat = (a % 18446744073709551616).toNat := by
  show (BitVec.ofInt 64 a).toNat = _
  rw [BitVec.toNat_ofInt]; rfl
theorem iand_mask (a : Int) (k : Nat) (hk : k ≤ 62) (m : Int) (hm : m = 2 ^ k - 1) : iand .i64 a m = a % 2 ^ k := by
  have hp : (2 : Nat) ^ k ≤ 2 ^ 62 := Nat.pow_le_pow_right (by omega) hk
  have hpos : 0 < (2 : Nat) ^ k := Nat.pow_pos (by omega)
  have e62 : (2 : Nat) ^ 62 = 4611686018427387904 := by decide
  have e2 : ((2 : Int) ^ k) = (((2 : Nat) ^ k : Nat) : Int) := by simp
  have hm' : m = (((2 : Nat) ^ k - 1 : Nat) : Int) := by rw [hm, e2]; omega
  have hmn : (m % 18446744073709551616).toNat = 2 ^ k - 1 := by rw [hm']; omega
  have h0 : (a % 18446744073709551616) % ((2 : Int) ^ k) = a % 2 ^ k := by
    refine Int.emod_emod_of_dvd a ?_
    have : (18446744073709551616 : Int) = 2 ^ 64 := by decide
    rw [this]
    exact ⟨2 ^ (64 - k), by rw [← Int.pow_add]; congr 1; omega⟩
  unfold iand
  rw [BitVec.toNat_and, ofInt_nat, ofInt_nat, hmn, Nat.and_two_pow_sub_one_eq_mod]
  have hlt : (a % 18446744073709551616).toNat % 2 ^ k < 2 ^ k := Nat.mod_lt _ hpos
  rw [w64 (by omega) (by omega), ← h0]
  have hnn : 0 ≤ a % 18446744073709551616 := Int.emod_nonneg _ (by decide)
  rw [Int.natCast_emod, Int.toNat_of_nonneg hnn]
  simp
theorem ior_add (a b : Int) (k : Nat) (ha : 0 ≤ a) (hb : 0 ≤ b) (hd : a % 2 ^ k = 0) (hlt : b < 2 ^ k) (hs : a + b ≤ 9223372036854775807) : ior .i64 a b = a + b := by
  obtain ⟨x, rfl⟩ := Int.eq_ofNat_of_zero_le ha
  obtain ⟨y, rfl⟩ := Int.eq_ofNat_of_zero_le hb
  have e2 : ((2 : Int) ^ k) = (((2 : Nat) ^ k : Nat) : Int) := by simp
  rw [e2] at hd hlt
  have hd' : x % 2 ^ k = 0 := by omega
  have hlt' : y < 2 ^ k := by omega
  unfold ior
  have hx : ((x : Int) % 18446744073709551616).toNat = x := by omega
  have hy : ((y : Int) % 18446744073709551616).toNat = y := by omega
  rw [BitVec.toNat_or, ofInt_nat, ofInt_nat, hx, hy]
  obtain ⟨q, rfl⟩ : ∃ q, x = 2 ^ k * q := ⟨x / 2 ^ k, by have := Nat.div_add_mod x (2 ^ k); omega⟩
  rw [← Nat.two_pow_add_eq_or_of_lt hlt']
  rw [w64 (by omega) (by omega)]
  omega
end Go.Jac
