/- Rows of records, and what a walk keeps, as one fact. -/
import Derived.Test.YtcdkbkgpgemfgaaGreatDoorSa
namespace Go.Jac
open Go

def iand (k : IntKind) (a b : Int) : Int := k.wrap (BitVec.ofInt k.bits a &&& BitVec.ofInt k.bits b).toNat
def ior (k : IntKind) (a b : Int) : Int := k.wrap (BitVec.ofInt k.bits a ||| BitVec.ofInt k.bits b).toNat
def ixor (k : IntKind) (a b : Int) : Int := k.wrap (BitVec.ofInt k.bits a ^^^ BitVec.ofInt k.bits b).toNat
def iandNot (k : IntKind) (a b : Int) : Int := k.wrap (BitVec.ofInt k.bits a &&& ~~~ BitVec.ofInt k.bits b).toNat
/-- A shift that the kind's bits can hold. -/
def ShOk (b : Int) (k : IntKind) : Prop := 0 ≤ b ∧ b.toNat ≤ k.bits
instance (b : Int) (k : IntKind) : Decidable (ShOk b k) := inferInstanceAs (Decidable (0 ≤ b ∧ b.toNat ≤ k.bits))
section
variable {P : Program} {K : Value → WP} {w : World} {k : IntKind} {a b c : Int}
theorem NilC_p (p : Addr) : NilC (.pointer (some p)) K w = K (.pointer (some p)) w := propext Iff.rfl
theorem NilC_f (f : FuncId) (x y : Array Value) : NilC (.func (.func f) x y) K w = K (.func (.func f) x y) w := propext Iff.rfl
theorem NilC_y (l : Nat) (x y : Array Value) : NilC (.func (.yield l) x y) K w = K (.func (.yield l) x y) w := propext Iff.rfl
theorem FA_p (b o n : Nat) : FA (.pointer (some ⟨b, o, none⟩)) n K w = K (.pointer (some ⟨b, o + n, none⟩)) w := by simp only [FA, add_of]
theorem Ext_t (vs : Array Value) (i : Nat) : Ext (.tuple vs) i K w = (match vs[i]? with | some v => K v w | none => False) := rfl
theorem Ext_20 (a b : Value) : Ext (.tuple #[a, b]) 0 K w = K a w := propext Iff.rfl
theorem Ext_21 (a b : Value) : Ext (.tuple #[a, b]) 1 K w = K b w := propext Iff.rfl
theorem Ext_30 (a b c : Value) : Ext (.tuple #[a, b, c]) 0 K w = K a w := propext Iff.rfl
theorem Ext_31 (a b c : Value) : Ext (.tuple #[a, b, c]) 1 K w = K b w := propext Iff.rfl
theorem Ext_32 (a b c : Value) : Ext (.tuple #[a, b, c]) 2 K w = K c w := propext Iff.rfl
theorem Ext_40 (a b c d : Value) : Ext (.tuple #[a, b, c, d]) 0 K w = K a w := propext Iff.rfl
theorem Ext_41 (a b c d : Value) : Ext (.tuple #[a, b, c, d]) 1 K w = K b w := propext Iff.rfl
theorem Ext_42 (a b c d : Value) : Ext (.tuple #[a, b, c, d]) 2 K w = K c w := propext Iff.rfl
theorem Ext_43 (a b c d : Value) : Ext (.tuple #[a, b, c, d]) 3 K w = K d w := propext Iff.rfl
theorem LenS_s (p : Option Addr) (n c : Nat) : LenS (.slice p n c) K w = K (.int .i64 n) w := propext Iff.rfl
theorem ConvI_i (k k' : IntKind) (n : Int) : ConvI k (.int k' n) K w = K (.int k (k.wrap n)) w := propext Iff.rfl
theorem Cnd_b (c : Bool) (t e : WP) : Cnd (.bool c) t e w = ((c = true → t w) ∧ (c = false → e w)) := by
  apply propext
  constructor
  · rintro ⟨c', h, h1, h2⟩; cases h; exact ⟨h1, h2⟩
  · rintro ⟨h1, h2⟩; exact ⟨c, rfl, h1, h2⟩
theorem Grd_t (c : Bool) (t e : WP) : Grd (.bool c) true t e w = ((c = true → t w) ∧ (c = false → e w)) := by
  apply propext
  constructor
  · rintro ⟨c', h, h1, h2⟩; cases h; exact ⟨h1, h2⟩
  · rintro ⟨h1, h2⟩; exact ⟨c, rfl, h1, h2⟩
theorem Grd_f (c : Bool) (t e : WP) : Grd (.bool c) false t e w = ((c = false → t w) ∧ (c = true → e w)) := by
  apply propext
  constructor
  · rintro ⟨c', h, h1, h2⟩; cases h; exact ⟨h1, h2⟩
  · rintro ⟨h1, h2⟩; exact ⟨c, rfl, h1, h2⟩
theorem BinI_mk {op : BinOp} {k k' : IntKind} {v : Value} (h : intBin op k a k' b = some v) : BinI op (.int k a) (.int k' b) K w = K v w := by
  apply propext
  constructor
  · rintro ⟨_, _, _, _, v', h1, h2, h3, h4⟩
    cases h1; cases h2
    rw [h] at h3; cases h3; exact h4
  · exact fun hk => ⟨_, _, _, _, v, rfl, rfl, h, hk⟩
theorem BinI_add : BinI .add (.int k a) (.int k b) K w = K (.int k (k.wrap (a + b))) w := BinI_mk (by simp [intBin])
theorem BinI_sub : BinI .sub (.int k a) (.int k b) K w = K (.int k (k.wrap (a - b))) w := BinI_mk (by simp [intBin])
theorem BinI_mul : BinI .mul (.int k a) (.int k b) K w = K (.int k (k.wrap (a * b))) w := BinI_mk (by simp [intBin])
theorem BinI_quo (h : (b == 0) = false) : BinI .quo (.int k a) (.int k b) K w = K (.int k (k.wrap (a.tdiv b))) w := BinI_mk (by simp at h; simp [intBin, h])
theorem BinI_rem (h : (b == 0) = false) : BinI .rem (.int k a) (.int k b) K w = K (.int k (a.tmod b)) w := BinI_mk (by simp at h; simp [intBin, h])
theorem BinI_and : BinI .and (.int k a) (.int k b) K w = K (.int k (iand k a b)) w := BinI_mk (by simp [intBin, iand])
theorem BinI_or : BinI .or (.int k a) (.int k b) K w = K (.int k (ior k a b)) w := BinI_mk (by simp [intBin, ior])
theorem BinI_xor : BinI .xor (.int k a) (.int k b) K w = K (.int k (ixor k a b)) w := BinI_mk (by simp [intBin, ixor])
theorem BinI_andNot : BinI .andNot (.int k a) (.int k b) K w = K (.int k (iandNot k a b)) w := BinI_mk (by simp [intBin, iandNot])
theorem BinI_eql : BinI .eql (.int k a) (.int k b) K w = K (.bool (decide (a = b))) w := BinI_mk (by simp [intBin]; rfl)
theorem BinI_neq : BinI .neq (.int k a) (.int k b) K w = K (.bool (!decide (a = b))) w := BinI_mk (by simp [intBin, bne]; rfl)
theorem BinI_lss : BinI .lss (.int k a) (.int k b) K w = K (.bool (decide (a < b))) w := BinI_mk (by simp [intBin])
theorem BinI_leq : BinI .leq (.int k a) (.int k b) K w = K (.bool (decide (a ≤ b))) w := BinI_mk (by simp [intBin])
theorem BinI_gtr : BinI .gtr (.int k a) (.int k b) K w = K (.bool (decide (b < a))) w := BinI_mk (by simp [intBin])
theorem BinI_geq : BinI .geq (.int k a) (.int k b) K w = K (.bool (decide (b ≤ a))) w := BinI_mk (by simp [intBin])
theorem bits_i64 : IntKind.bits .i64 = 64 := rfl
theorem bits_u64 : IntKind.bits .u64 = 64 := rfl
theorem BinI_shl {k' : IntKind} (h : ShOk b k) : BinI .shl (.int k a) (.int k' b) K w = K (.int k (k.wrap (a * 2 ^ b.toNat))) w := BinI_mk (by
  have h2 := h.2; have := h.1
  have : ¬ (b < 0) := by omega
  simp only [intBin, this, if_false, Nat.min_eq_left h2])
theorem BinI_shr {k' : IntKind} (h : ShOk b k) : BinI .shr (.int k a) (.int k' b) K w = K (.int k (a.fdiv (2 ^ b.toNat))) w := BinI_mk (by
  have h2 := h.2; have := h.1
  have : ¬ (b < 0) := by omega
  simp only [intBin, this, if_false, Nat.min_eq_left h2])
theorem Pick_b (c : Bool) (x y : Value) : Pick (.bool c) x y K w = K (cond c x y) w := by cases c <;> rfl
theorem Un_not (c : Bool) : Un .not (.bool c) K w = K (.bool (!c)) w := by
  apply propext
  constructor
  · rintro ⟨v, h, hk⟩
    have := h default default
    simp only [Op.unary, Sem.run_pure, Result.ok.injEq, and_true] at this
    subst this; exact hk
  · exact fun hk => ⟨_, fun _ _ => rfl, hk⟩
theorem Un_neg : Un .neg (.int k a) K w = K (.int k (k.wrap (0 - a))) w := by
  apply propext
  constructor
  · rintro ⟨v, h, hk⟩
    have := h default default
    simp only [Op.unary, Op.intArith, Sem.run_pure, Result.ok.injEq, and_true] at this
    subst this; exact hk
  · exact fun hk => ⟨_, fun _ _ => rfl, hk⟩
theorem EqB_b (n x y : Bool) : EqB n (.bool x) (.bool y) K w = K (.bool (cond n (!(x == y)) (x == y))) w := by
  apply propext
  constructor
  · rintro ⟨_, _, h1, h2, hk⟩; cases h1; cases h2; exact hk
  · exact fun hk => ⟨_, _, rfl, rfl, hk⟩
theorem EqP_mk {n r : Bool} {x y : Value} (h : ptrEq x y = some r) : EqP n x y K w = K (.bool (cond n (!r) r)) w := by
  apply propext
  constructor
  · rintro ⟨r', h', hk⟩; rw [h] at h'; cases h'; exact hk
  · exact fun hk => ⟨r, h, hk⟩
theorem EqP_pn (n : Bool) (p : Addr) : EqP n (.pointer (some p)) (.pointer none) K w = K (.bool n) w := by rw [EqP_mk (r := false) rfl]; cases n <;> rfl
theorem EqP_nn (n : Bool) : EqP n (.pointer none) (.pointer none) K w = K (.bool (!n)) w := by rw [EqP_mk (r := true) rfl]; cases n <;> rfl
theorem EqP_np (n : Bool) (p : Addr) : EqP n (.pointer none) (.pointer (some p)) K w = K (.bool n) w := by rw [EqP_mk (r := false) rfl]; cases n <;> rfl
theorem EqS_mk {m : Nat} {n r : Bool} {xs ys : List Value} (h : intsEq xs ys = some r) (hx : xs.length = m) (hy : ys.length = m) (hk : K (.bool (cond n (!r) r)) w) : EqS m n (.agg xs.toArray) (.agg ys.toArray) K w :=
  ⟨_, _, r, rfl, rfl, by simpa using hx, by simpa using hy, by simpa using h, hk⟩
theorem FnV_c {f : FuncId} {first args caps : Array Value} (he : ∀ args w, (callFunc f args).run P w = .ok (.enter f args) w) (h : Cl P f (first ++ args ++ caps) K w) : FnV P (.func (.func f) first caps) args K w := .inl ⟨he, h⟩
theorem call_of {f : FuncId} {args : Array Value} (he : ∀ args w, (callFunc f args).run P w = .ok (.enter f args) w) (h : Cl P f args K w) : FnV P (.func (.func f) #[] #[]) args K w :=
  .inl ⟨he, by simpa using h⟩
theorem bld_ok {zero : Array Value} {places : List (Nat × Nat)} {parts : Array (Nat × Value)} {cs : Array Value} (h : Instr.fill (fun i => places[i]?) zero parts.toList = some cs) (k : K (.agg cs) w) : Ex P (bldS zero places parts) K w :=
  ⟨_, _, by unfold bldS; rw [h]; rfl, k⟩
theorem ia_ok {es b o len cap : Nat} {k : IntKind} {i : Int} (h0 : 0 ≤ i) (h1 : i < (len : Int)) (hk : K (.pointer (some ⟨b, o + i.toNat * es, none⟩)) w) : IA es (.slice (some ⟨b, o, none⟩) len cap) (.int k i) K w :=
  ⟨_, _, _, _, _, rfl, rfl, h0, h1, by rw [add_of]; exact hk⟩
end

/-! ### Numbers -/
theorem w64 {n : Int} (h0 : -9223372036854775808 ≤ n) (h1 : n ≤ 9223372036854775807) : IntKind.i64.wrap n = n := by
  rw [IntKind.wrap_i64]; omega
def I64 (n : Int) : Prop := -9223372036854775808 ≤ n ∧ n ≤ 9223372036854775807
theorem I64.w {n : Int} (h : I64 n) : IntKind.i64.wrap n = n := w64 h.1 h.2
theorem I64.wrap (n : Int) : I64 (IntKind.i64.wrap n) := by unfold I64; rw [IntKind.wrap_i64]; omega
theorem I64.of_wf {n : Int} (h : (Lit.int .i64 n).wf = true) : I64 n := by
  simp [Lit.wf, IntKind.min, IntKind.max, IntKind.signed, IntKind.bits] at h
  unfold I64
  omega
theorem I64.wf {n : Int} (h : I64 n) : (Lit.int .i64 n).wf = true := by
  unfold I64 at h
  simp [Lit.wf, IntKind.min, IntKind.max, IntKind.signed, IntKind.bits]
  omega
theorem ofInt_nat (a : Int) : (BitVec.ofInt IntKind.i64.bits a).toNat = (a % 18446744073709551616).toNat := by
  show (BitVec.ofInt 64 a).toNat = _
  rw [BitVec.toNat_ofInt]; rfl
theorem iand_mask (a : Int) (k : Nat) (hk : k ≤ 62) (m : Int) (hm : m = 2 ^ k - 1) : iand .i64 a m = a % 2 ^ k := by
  have hp : (2 : Nat) ^ k ≤ 2 ^ 62 := Nat.pow_le_pow_right (by omega) hk
  have hpos : 0 < (2 : Nat) ^ k := Nat.pow_pos (by omega)
  have e62 : (2 : Nat) ^ 62 = 4611686018427387904 := by decide
  have e2 : ((2 : Int) ^ k) = (((2 : Nat) ^ k : Nat) : Int) := by simp
  have hm' : m = (((2 : Nat) ^ k - 1 : Nat) : Int) := by rw [hm, e2]; omega
  have hmn : (m % 18446744073709551616).toNat = 2 ^ k - 1 := by rw [hm']; omega
  have h0 : (a % 18446744073709551616) % ((2 : Int) ^ k) = a % 2 ^ k := by
    refine Int.emod_emod_of_dvd a ?_
    have : (18446744073709551616 : Int) = 2 ^ 64 := by decide
    rw [this]
    exact ⟨2 ^ (64 - k), by rw [← Int.pow_add]; congr 1; omega⟩
  unfold iand
  rw [BitVec.toNat_and, ofInt_nat, ofInt_nat, hmn, Nat.and_two_pow_sub_one_eq_mod]
  have hlt : (a % 18446744073709551616).toNat % 2 ^ k < 2 ^ k := Nat.mod_lt _ hpos
  rw [w64 (by omega) (by omega), ← h0]
  have hnn : 0 ≤ a % 18446744073709551616 := Int.emod_nonneg _ (by decide)
  rw [Int.natCast_emod, Int.toNat_of_nonneg hnn]
  simp
theorem ior_add (a b : Int) (k : Nat) (ha : 0 ≤ a) (hb : 0 ≤ b) (hd : a % 2 ^ k = 0) (hlt : b < 2 ^ k) (hs : a + b ≤ 9223372036854775807) : ior .i64 a b = a + b := by
  obtain ⟨x, rfl⟩ := Int.eq_ofNat_of_zero_le ha
  obtain ⟨y, rfl⟩ := Int.eq_ofNat_of_zero_le hb
  have e2 : ((2 : Int) ^ k) = (((2 : Nat) ^ k : Nat) : Int) := by simp
  rw [e2] at hd hlt
  have hd' : x % 2 ^ k = 0 := by omega
  have hlt' : y < 2 ^ k := by omega
  unfold ior
  have hx : ((x : Int) % 18446744073709551616).toNat = x := by omega
  have hy : ((y : Int) % 18446744073709551616).toNat = y := by omega
  rw [BitVec.toNat_or, ofInt_nat, ofInt_nat, hx, hy]
  obtain ⟨q, rfl⟩ : ∃ q, x = 2 ^ k * q := ⟨x / 2 ^ k, by have := Nat.div_add_mod x (2 ^ k); omega⟩
  rw [← Nat.two_pow_add_eq_or_of_lt hlt']
  rw [w64 (by omega) (by omega)]
  omega
end Go.Jac
namespace Go.Jac
open Go

theorem Sat.tail {A : HP} {L : List HP} : ∀ {h : Hp}, Sat (A :: L) h → Sat L h := by
  induction L generalizing A with
  | nil => intro h _; trivial
  | cons B M ih =>
    intro h s
    obtain ⟨h1, h2, s1, a, h3, h4, s2, b, m⟩ := s
    obtain ⟨h', t1, t2⟩ := s1.assoc s2
    exact ⟨h3, h', t1, b, ih (A := A) ⟨h1, h4, t2, a, m⟩⟩
theorem Sat.tail2 {A B : HP} {L : List HP} {h : Hp} (s : Sat (A :: B :: L) h) : Sat (A :: L) h := s.swap.tail
theorem Sat.opens {M : List HP} : ∀ {L : List HP} {h : Hp}, Sat (sat M :: L) h → Sat (M ++ L) h := by
  induction M with
  | nil => intro L h s; exact s.tail
  | cons A M ih =>
    intro L h s
    obtain ⟨h1, h2, s1, ⟨h3, h4, s2, a, m⟩, l⟩ := s
    obtain ⟨h', t1, t2⟩ := s1.into s2
    exact ⟨h3, h', t1, a, ih ⟨h4, h2, t2, m, l⟩⟩

/-- What holds of the world of a walk that began at w0. -/
def D (w0 : World) (L : List HP) (w : World) : Prop := Sat L (hw w) ∧ Kp w0 w
section
variable {w0 w : World} {L M : List HP} {A B : HP} {K : Value → WP} {b o n m : Nat} {t : TypeId} {cs : List Value} {v : Value}
theorem D.pick (i : Nat) (d : D w0 L w) : D w0 (pk i L) w := ⟨d.1.pick i, d.2⟩
theorem D.back (i : Nat) (d : D w0 L w) : D w0 (pb i L) w := ⟨d.1.back i, d.2⟩
theorem D.swap (d : D w0 (A :: B :: L) w) : D w0 (B :: A :: L) w := ⟨d.1.swap, d.2⟩
theorem D.swap2 {C : HP} (d : D w0 (A :: B :: C :: L) w) : D w0 (A :: C :: B :: L) w := ⟨d.1.under fun _ s => s.swap, d.2⟩
theorem D.tail (d : D w0 (A :: L) w) : D w0 L w := ⟨d.1.tail, d.2⟩
theorem D.tail2 (d : D w0 (A :: B :: L) w) : D w0 (A :: L) w := d.swap.tail
theorem D.hd (d : D w0 (A :: L) w) (f : ∀ h, A h → B h) : D w0 (B :: L) w := ⟨d.1.hd f, d.2⟩
theorem D.get (d : D w0 (cel b t cs :: L) w) : hw w b = some (.cells cs.toArray t (0, 0)) := d.1.get
theorem D.ex {α : Type} {A : α → HP} (d : D w0 (ex A :: L) w) : ∃ x, D w0 (A x :: L) w := by
  obtain ⟨x, s⟩ := Sat.ex_iff.1 d.1
  exact ⟨x, s, d.2⟩
theorem D.mk_ex {α : Type} {A : α → HP} (x : α) (d : D w0 (A x :: L) w) : D w0 (Jac.ex A :: L) w := ⟨Sat.ex_iff.2 ⟨x, d.1⟩, d.2⟩
theorem D.opens (d : D w0 (sat M :: L) w) : D w0 (M ++ L) w := ⟨d.1.opens, d.2⟩
theorem D.close (d : D w0 (M ++ L) w) : D w0 (sat M :: L) w := ⟨d.1.close, d.2⟩
theorem D.drawn (d : D w0 L w) : D w0 L { w with drawn := w.drawn + 1 } := ⟨d.1, d.2.os, d.2.tape, d.2.output, d.2.size, Nat.le_trans d.2.drawn (Nat.le_succ _)⟩

theorem ones {l : List Value} (h : l.all Value.oneCell' = true) : ∀ x ∈ l, x.oneCell' = true := List.all_eq_true.1 h
theorem d_st (d : D w0 (cel b t cs :: L) w) (hn : v.cells.size = n) (hl : o + n ≤ cs.length) (h1 : ∀ x ∈ v.cells.toList, x.oneCell' = true)
    (k : ∀ w', D w0 (cel b t (splice cs o v.cells.toList) :: L) w' → K undef w') : St n (.pointer (some ⟨b, o, none⟩)) v K w :=
  st_ok d.1 hn hl h1 fun w' s kp => k w' ⟨s, d.2.trans kp⟩
theorem d_new (cs : List Value) (d : D w0 L w) (k : ∀ b w', D w0 (cel b t cs :: L) w' → K (.pointer (some ⟨b, 0, none⟩)) w') : New t cs.toArray K w :=
  new_ok d.1 fun b w' s kp => k b w' ⟨s, d.2.trans kp⟩
theorem d_new' {vs : Array Value} (cs : List Value) (hv : vs = cs.toArray) (d : D w0 L w) (k : ∀ b w', D w0 (cel b t cs :: L) w' → K (.pointer (some ⟨b, 0, none⟩)) w') : New t vs K w := hv ▸ d_new cs d k
theorem d_bsl {elem size len : Nat} {zero : Array Value} {parts : Array (Nat × Value)} (cs : List Value) (d : D w0 L w) (hs : len * size ≤ 2 ^ 24)
    (hf : Instr.fill (fun i => some (i * size, size)) ((Array.range (len * size)).map (zero[· % zero.size]!)) parts.toList = some cs.toArray)
    (k : ∀ b w', D w0 (cel b elem cs :: L) w' → K (.slice (some ⟨b, 0, none⟩) len len) w') : BSlC elem size zero len parts K w :=
  bsl_ok d.1 hs hf fun b w' s kp => k b w' ⟨s, d.2.trans kp⟩
theorem d_app {elem es bytes : Nat} {zero : Array Value} {sv x : Value} {news : List Value} (d : D w0 (Rw elem es sv n cs :: L) w) (hx : SrcV es x m news w) (hz : zero.size = es) (hm : 0 < m) (hb : (n + m) * bytes ≤ 140737488355328) (h63 : n + m < 4611686018427387904)
    (hx2 : ∀ v ∈ news, v.oneCell' = true)
    (k : ∀ sv' w', D w0 (Rw elem es sv' (n + m) (cs ++ news) :: L) w' → K sv' w') : AppC elem es bytes zero sv x K w :=
  app_ok d.1 hx hz hm hb h63 hx2 fun sv' w' s kp => k sv' w' ⟨s, d.2.trans kp⟩
/-- The appended slice of one element, fresh in a block. -/
theorem src_of (g : hw w b = some (.cells cs.toArray t (0, 0))) (hl : cs.length = m * n) (h1 : ∀ u ∈ cs, u.oneCell' = true) (c : Nat) : SrcV n (.slice (some ⟨b, 0, none⟩) m c) m cs w :=
  .slice ⟨b, 0, none⟩ c rfl hl (fun j u hu => by rw [add_of, cell_of g, Nat.zero_add]; exact hu) h1
end

/-! ### Rows of records -/
section
variable {α : Type} {f : α → List Value} {es : Nat} {S : List α}
theorem flat_len (hf : ∀ x, (f x).length = es) : (S.flatMap f).length = S.length * es := by
  induction S with
  | nil => simp
  | cons x r ih => rw [List.flatMap_cons, List.length_append, ih, hf, List.length_cons, Nat.add_mul]; omega
theorem flat_at (hf : ∀ x, (f x).length = es) : ∀ {S : List α} {i : Nat} (h : i < S.length), ∃ pre post, S.flatMap f = pre ++ f S[i] ++ post ∧ pre.length = i * es ∧ ∀ y, (S.set i y).flatMap f = pre ++ f y ++ post
  | x :: r, 0, _ => ⟨[], r.flatMap f, by simp, by simp, fun y => by simp⟩
  | x :: r, i + 1, h => by
    obtain ⟨pre, post, h1, h2, h3⟩ := flat_at hf (S := r) (i := i) (by simpa using h)
    refine ⟨f x ++ pre, post, ?_, ?_, fun y => ?_⟩
    · rw [List.flatMap_cons, h1]; simp
    · rw [List.length_append, hf, h2, Nat.add_mul]; omega
    · rw [List.set_cons_succ, List.flatMap_cons, h3]; simp
theorem splice_mid {pre mid post vs : List Value} {o p : Nat} (hp : p = pre.length + o) (h : o + vs.length ≤ mid.length) : splice (pre ++ mid ++ post) p vs = pre ++ splice mid o vs ++ post := by
  subst hp
  rw [splice_eq _ _ _ (by simp; omega), splice_eq _ _ _ h]
  have h1 : (pre ++ mid ++ post).take (pre.length + o) = pre ++ mid.take o := by
    rw [List.append_assoc, List.take_append, List.take_append_of_le_length (by omega)]
    simp [List.take_of_length_le]
  have h2 : (pre ++ mid ++ post).drop (pre.length + o + vs.length) = mid.drop (o + vs.length) ++ post := by
    rw [List.append_assoc, List.drop_append, List.drop_append_of_le_length (by omega)]
    rw [List.drop_eq_nil_of_le (by omega)]
    simp only [List.nil_append]
    congr 2; omega
  rw [h1, h2]; simp

variable {w0 w : World} {L : List HP} {K : Value → WP} {elem : Nat} {sv : Value} {i : Int}
/-- Where an element of a row lies. -/
theorem rec_at (hf : ∀ x, (f x).length = es) (d : D w0 (Rw elem es sv S.length (S.flatMap f) :: L) w) (h0 : 0 ≤ i) (h1 : i < S.length) :
    ∃ (b cap : Nat) (cs : List Value), sv = .slice (some ⟨b, 0, none⟩) S.length cap ∧ hw w b = some (.cells cs.toArray elem (0, 0)) ∧ ∀ j x, (f (S[i.toNat]'(by omega)))[j]? = some x → cs[i.toNat * es + j]? = some x := by
  obtain ⟨b, cap, junk, rfl, hle, hl, s⟩ := Rw.block d.1 (by omega)
  refine ⟨b, cap, _, rfl, s.get, fun j x hx => ?_⟩
  obtain ⟨pre, post, e1, e2, _⟩ := flat_at hf (S := S) (i := i.toNat) (by omega)
  have hj := (List.getElem?_eq_some_iff.1 hx).1
  rw [e1, ← e2, List.append_assoc, List.append_assoc, List.getElem?_append_right (by omega), Nat.add_sub_cancel_left, List.getElem?_append_left hj]
  exact hx
/-- An element of a row, or a part of it, written anew. -/
theorem rec_st (hf : ∀ x, (f x).length = es) {b cap n : Nat} (d : D w0 (Rw elem es (.slice (some ⟨b, 0, none⟩) n cap) S.length (S.flatMap f) :: L) w) (h0 : 0 ≤ i) (h1 : i < S.length) {v : Value} {m o p : Nat} (hp : p = i.toNat * es + o) (hm : v.cells.size = m) (ho : o + m ≤ es)
    (hc : ∀ x ∈ v.cells.toList, x.oneCell' = true) (y : α) (hy : splice (f (S[i.toNat]'(by omega))) o v.cells.toList = f y)
    (k : ∀ w', D w0 (Rw elem es (.slice (some ⟨b, 0, none⟩) n cap) (S.set i.toNat y).length ((S.set i.toNat y).flatMap f) :: L) w' → K undef w') :
    St m (.pointer (some ⟨b, p, none⟩)) v K w := by
  obtain ⟨b', cap', junk, e, hle, hl, s⟩ := Rw.block d.1 (by omega)
  cases e
  obtain ⟨pre, post, e1, e2, e3⟩ := flat_at hf (S := S) (i := i.toNat) (by omega)
  have hs : v.cells.toList.length = m := by rw [Array.length_toList]; exact hm
  have hi : i.toNat < S.length := by omega
  have hroom : i.toNat * es + es ≤ S.length * es := by rw [← Nat.succ_mul]; exact Nat.mul_le_mul_right _ hi
  have hfl := flat_len (S := S) hf
  refine d_st (w0 := w0) (L := L) (cs := S.flatMap f ++ junk) ⟨s, d.2⟩ hm (by subst hp; rw [List.length_append, hfl]; omega) hc fun w' d' => k w' ?_
  have key : splice (S.flatMap f ++ junk) p v.cells.toList = (S.set i.toNat y).flatMap f ++ junk := by
    rw [e1, List.append_assoc, splice_mid (o := o) (by omega) (by rw [hf, hs]; exact ho), hy, e3]
    simp
  rw [key] at d'
  have hlen : (S.set i.toNat y).length = S.length := by simp
  refine ⟨?_, d'.2⟩
  rw [hlen]
  exact Rw.mk d'.1 hle (by rw [flat_len hf, hlen]) (by rw [← key, splice_length]; exact hl)
end
end Go.Jac
