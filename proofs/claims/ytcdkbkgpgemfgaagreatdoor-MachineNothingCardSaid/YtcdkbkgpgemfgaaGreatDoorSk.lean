/- Steps of a walk, told by where the block stands in the list. -/
import Derived.Test.YtcdkbkgpgemfgaaGreatDoorSh
namespace Go.Jac
open Go
theorem cells_agg (a : Array Value) : Value.cells (.agg a) = a := rfl
theorem cells_int (k : IntKind) (n : Int) : Value.cells (.int k n) = #[.int k n] := rfl
theorem cells_bool (b : Bool) : Value.cells (.bool b) = #[.bool b] := rfl
theorem cells_ptr (p : Option Addr) : Value.cells (.pointer p) = #[.pointer p] := rfl
theorem cells_sl (p : Option Addr) (n c : Nat) : Value.cells (.slice p n c) = #[.slice p n c] := rfl
theorem cells_map (p : Option Nat) : Value.cells (.map p) = #[.map p] := rfl
theorem cells_fn (f : FuncId) (x y : Array Value) : Value.cells (.func (.func f) x y) = #[.func (.func f) x y] := rfl
theorem splice0 (cs : List Value) (o : Nat) : splice cs o [] = cs := rfl
theorem spliceS (cs : List Value) (o : Nat) (v : Value) (r : List Value) : splice cs o (v :: r) = splice (cs.set o v) (o + 1) r := rfl
theorem splice_whole {cs vs : List Value} (h : vs.length = cs.length) : splice cs 0 vs = vs := by
  rw [splice_eq _ _ _ (by omega)]; simp [h]
theorem D.only (ix : List Nat) {w0 w : World} {L : List HP} (d : D w0 L w) : D w0 ((Jac.sel ix [] L).take ix.length) w := by
  have d := d.sel ix
  refine ⟨?_, d.2⟩
  have key : ∀ (n : Nat) (L : List HP) (h : Hp), Sat L h → Sat (L.take n) h := by
    intro n
    induction n with
    | zero => intro L h _; exact trivial
    | succ n ih =>
      intro L h s
      cases L with
      | nil => exact s
      | cons A L => exact s.under fun h' s' => ih L h' s'
  exact key _ _ _ d.1
theorem D.under' {w0 w : World} {A : HP} {L M : List HP} (f : ∀ h, Sat L h → Sat M h) (d : D w0 (A :: L) w) : D w0 (A :: M) w := ⟨d.1.under f, d.2⟩
/-- A fence for what hangs on nothing. -/
def One (v : Value) : Prop := v.cells = #[v] ∧ v.oneCell' = true
section
variable {P : Program} {w0 w : World} {L : List HP} {K : Value → WP} {I : WP} {B : Value → WP} {b o n m : Nat} {t : TypeId} {cs vs : List Value} {v x y z : Value}
variable {A0 A1 A2 A3 A4 A5 : HP}
theorem fill1 {c : Array Value} {i off : Nat} {v : Value} {zero : List Value} {parts : List (Nat × Value)} {pl : Nat → Option (Nat × Nat)} (h1 : pl i = some (off, 1)) (h2 : v.cells = #[v]) (hl : off < zero.length) (h : Instr.fill pl (zero.set off v).toArray parts = some c) : Instr.fill pl zero.toArray ((i, v) :: parts) = some c := by
  unfold Instr.fill
  rw [h1]
  have : ¬ (off + 1 > zero.length) := by omega
  simp [h2, this]
  exact h
theorem bld_n {zero : Array Value} {places : List (Nat × Nat)} (k : K (.agg zero) w) : Ex P (bldS zero places #[]) K w := bld_ok (cs := zero) rfl k
theorem bld_c {i off : Nat} {zero : List Value} {r : List (Nat × Value)} {places : List (Nat × Nat)} (h1 : places[i]? = some (off, 1)) (h2 : v.cells = #[v]) (hl : off < zero.length) (k : Ex P (bldS (zero.set off v).toArray places r.toArray) K w) : Ex P (bldS zero.toArray places ((i, v) :: r).toArray) K w := by
  obtain ⟨u, w', h, hk⟩ := k
  unfold bldS at h
  cases hf : Instr.fill (fun i => places[i]?) (zero.set off v).toArray r.toArray.toList with
  | none => rw [hf] at h; simp at h
  | some c =>
    rw [hf] at h
    simp only [Sem.run_pure, Result.ok.injEq] at h
    obtain ⟨rfl, rfl⟩ := h
    exact bld_ok (fill1 h1 h2 hl hf) hk
theorem fill0 {zero : Array Value} {pl : Nat → Option (Nat × Nat)} : Instr.fill pl zero [] = some zero := rfl
theorem bsl1 {elem es : Nat} {zero : Array Value} (hv : v.cells = cs.toArray) (hl : cs.length = es) (d : D w0 L w) (_h0 : es ≠ 0) (he : es ≤ 2 ^ 24) (k : ∀ b w', D w0 (cel b elem cs :: L) w' → K (.slice (some ⟨b, 0, none⟩) 1 1) w') : BSlC elem es zero 1 #[(0, v)] K w := by
  refine d_bsl cs d (by omega) ?_ k
  unfold Instr.fill
  have hz : ((Array.range (1 * es)).map (zero[· % zero.size]!)).size = es := by simp
  rw [hv]
  simp only [Nat.zero_mul, List.size_toArray, hl, ne_eq, not_true_eq_false, decide_false, Bool.false_or, hz, Nat.zero_add]
  rw [if_neg (by simp)]
  simp only [Instr.fill, Option.some.injEq]
  have key : ∀ (ks : List Value) (k : Nat) (a : Array Value), k + ks.length ≤ a.size → (ks.zipIdx k).foldl (fun a (c, j) => a.setIfInBounds j c) a = (a.toList.take k ++ ks ++ a.toList.drop (k + ks.length)).toArray := by
    intro ks
    induction ks with
    | nil => intro k a _; simp
    | cons c r ih =>
      intro k a h
      simp only [List.length_cons] at h
      rw [List.zipIdx_cons, List.foldl_cons, ih (k + 1) _ (by simp; omega)]
      have hlen := Array.length_toList (xs := a)
      have hk : k < a.toList.length := by omega
      simp only [Array.toList_setIfInBounds]
      rw [List.take_succ_eq_append_getElem (by simpa using hk), List.take_set_of_le (by omega), List.drop_set_of_lt (by omega)]
      rw [show k + 1 + r.length = k + (r.length + 1) from by omega]
      simp
  have h2 := key cs 0 ((Array.range (1 * es)).map (zero[· % zero.size]!)) (by rw [hz]; omega)
  simp only [List.take_zero, List.nil_append, Nat.zero_add] at h2
  rw [List.drop_eq_nil_of_le (by rw [Array.length_toList, hz]; omega), List.append_nil] at h2
  rw [← Array.foldl_toList, show (cs.toArray.zipIdx).toList = cs.zipIdx from by simp]
  simpa using h2
theorem bsl2 {elem : Nat} {zero : Array Value} (hx : x.cells = #[x]) (hy : y.cells = #[y]) (d : D w0 L w) (k : ∀ b w', D w0 (cel b elem [x, y] :: L) w' → K (.slice (some ⟨b, 0, none⟩) 2 2) w') : BSlC elem 1 zero 2 #[(0, x), (1, y)] K w := by
  refine d_bsl [x, y] d (by decide) ?_ k
  have e : ((Array.range (2 * 1)).map (zero[· % zero.size]!)) = [zero[0 % zero.size]!, zero[1 % zero.size]!].toArray := by
    apply Array.ext'
    simp [Array.toList_range, List.range_succ]
  rw [e]
  exact fill1 rfl hx (by simp) (fill1 rfl hy (by simp) rfl)
theorem bsl0 {elem es : Nat} {zero : Array Value} (d : D w0 L w) (k : ∀ b w', D w0 (cel b elem [] :: L) w' → K (.slice (some ⟨b, 0, none⟩) 0 0) w') : BSlC elem es zero 0 #[] K w := by
  refine d_bsl [] d (by omega) ?_ k
  simp [Instr.fill]
theorem ldp_get {j : Nat} {x : Value} (hv : (cs.drop o).take n = vs) (hx : vs[j]? = some x) : cs[o + j]? = some x := by
  subst hv
  rw [List.getElem?_take] at hx
  split at hx
  · rwa [List.getElem?_drop] at hx
  · cases hx
theorem hd_cel {cs' : List Value} (d : D w0 (cel b t cs :: L) w) (h : cs = cs') : D w0 (cel b t cs' :: L) w := h ▸ d

theorem gc0 (d : D w0 (cel b t cs :: L) w) : hw w b = some (.cells cs.toArray t (0, 0)) := d.get
theorem gc1 (d : D w0 (A0 :: cel b t cs :: L) w) : hw w b = some (.cells cs.toArray t (0, 0)) := (D.pick 1 d).get
theorem gc2 (d : D w0 (A0 :: A1 :: cel b t cs :: L) w) : hw w b = some (.cells cs.toArray t (0, 0)) := (D.pick 2 d).get
theorem gc3 (d : D w0 (A0 :: A1 :: A2 :: cel b t cs :: L) w) : hw w b = some (.cells cs.toArray t (0, 0)) := (D.pick 3 d).get
theorem gc4 (d : D w0 (A0 :: A1 :: A2 :: A3 :: cel b t cs :: L) w) : hw w b = some (.cells cs.toArray t (0, 0)) := (D.pick 4 d).get
theorem gc5 (d : D w0 (A0 :: A1 :: A2 :: A3 :: A4 :: cel b t cs :: L) w) : hw w b = some (.cells cs.toArray t (0, 0)) := (D.pick 5 d).get
inductive In (A : HP) : List HP → Prop
  | h (L : List HP) : In A (A :: L)
  | t (B : HP) (L : List HP) : In A L → In A (B :: L)
inductive Rp (A B : HP) : List HP → List HP → Prop
  | h (L : List HP) : Rp A B (A :: L) (B :: L)
  | t (C : HP) (L L' : List HP) : Rp A B L L' → Rp A B (C :: L) (C :: L')
theorem In.get (i : In (cel b t cs) L) : ∀ {h : Hp}, Sat L h → h b = some (.cells cs.toArray t (0, 0)) := by
  induction i with
  | h L => intro h s; exact s.get
  | t B L _ ih => intro h s; exact ih s.tail
theorem Rp.front {A B : HP} {L L' : List HP} (r : Rp A B L L') : ∃ M, (∀ h, Sat L h → Sat (A :: M) h) ∧ ∀ h, Sat (B :: M) h → Sat L' h := by
  induction r with
  | h L => exact ⟨L, fun _ s => s, fun _ s => s⟩
  | t C L L' _ ih =>
    obtain ⟨M, h1, h2⟩ := ih
    exact ⟨C :: M, fun h s => (s.under h1).swap, fun h s => s.swap.under h2⟩
theorem ldm (d : D w0 L w) (i : In (cel b t cs) L) (hv : cs[o]? = some v) (k : K v w) : Ld1 (.pointer (some ⟨b, o, none⟩)) K w := ld1 (i.get d.1) hv k
theorem lam (d : D w0 L w) (i : In (cel b t cs) L) (hn : cs.length = n) (k : K (.agg cs.toArray) w) : LdN n (.pointer (some ⟨b, 0, none⟩)) K w := ldN (i.get d.1) cs hn (fun _ _ hx => by rw [Nat.zero_add]; exact hx) k
theorem lpm (d : D w0 L w) (i : In (cel b t cs) L) (hv : (cs.drop o).take n = vs) (hn : vs.length = n) (k : K (.agg vs.toArray) w) : LdN n (.pointer (some ⟨b, o, none⟩)) K w := ldN (i.get d.1) vs hn (fun _ _ hx => ldp_get hv hx) k
theorem qlm (i : In (cel b t cs) L) (hv : cs[o]? = some v) (k : B v w) : QE (D w0 L) (fun KK => Ld1 (.pointer (some ⟨b, o, none⟩)) fun v => KK v) B w := qe_ld1 (fun _ d => i.get d.1) hv k
theorem qam (i : In (cel b t cs) L) (hn : cs.length = n) (k : B (.agg cs.toArray) w) : QE (D w0 L) (fun KK => LdN n (.pointer (some ⟨b, 0, none⟩)) fun v => KK v) B w := qe _ (fun _ d => lam d i hn ⟨rfl, rfl⟩) k
theorem stm {L' : List HP} (d : D w0 L w) (r : Rp (cel b t cs) (cel b t (splice cs o v.cells.toList)) L L') (hn : v.cells.size = n) (hl : o + n ≤ cs.length) (h1 : ∀ x ∈ v.cells.toList, x.oneCell' = true) (k : ∀ w', D w0 L' w' → K undef w') : St n (.pointer (some ⟨b, o, none⟩)) v K w := by
  obtain ⟨M, f1, f2⟩ := r.front
  exact d_st (L := M) ⟨f1 _ d.1, d.2⟩ hn hl h1 fun w' d => k w' ⟨f2 _ d.1, d.2⟩
theorem swm {L' : List HP} (d : D w0 L w) (r : Rp (cel b t cs) (cel b t v.cells.toList) L L') (hn : v.cells.size = n) (hl : cs.length = n) (h1 : ∀ x ∈ v.cells.toList, x.oneCell' = true) (k : ∀ w', D w0 L' w' → K undef w') : St n (.pointer (some ⟨b, 0, none⟩)) v K w := by
  obtain ⟨M, f1, f2⟩ := r.front
  exact d_st (L := M) ⟨f1 _ d.1, d.2⟩ hn (by omega) h1 fun w' d => k w' ⟨f2 _ (by rw [splice_whole (by rw [Array.length_toList]; omega)] at d; exact d.1), d.2⟩
theorem stw0 (d : D w0 (cel b t cs :: L) w) (hn : v.cells.size = n) (hl : cs.length = n) (h1 : ∀ x ∈ v.cells.toList, x.oneCell' = true) (k : ∀ w', D w0 (cel b t v.cells.toList :: L) w' → K undef w') : St n (.pointer (some ⟨b, 0, none⟩)) v K w := swm d (.h L) hn hl h1 k
theorem fn00 {f : FuncId} (he : ∀ args w, (callFunc f args).run P w = .ok (.enter f args) w) (h : Cl P f #[] K w) : FnV P (.func (.func f) #[] #[]) #[] K w := .inl ⟨he, by simpa using h⟩
theorem fn01 {f : FuncId} {c0 : Value} (he : ∀ args w, (callFunc f args).run P w = .ok (.enter f args) w) (h : Cl P f #[c0] K w) : FnV P (.func (.func f) #[] #[c0]) #[] K w := .inl ⟨he, by simpa using h⟩
theorem fn02 {f : FuncId} {c0 c1 : Value} (he : ∀ args w, (callFunc f args).run P w = .ok (.enter f args) w) (h : Cl P f #[c0, c1] K w) : FnV P (.func (.func f) #[] #[c0, c1]) #[] K w := .inl ⟨he, by simpa using h⟩
theorem fn03 {f : FuncId} {c0 c1 c2 : Value} (he : ∀ args w, (callFunc f args).run P w = .ok (.enter f args) w) (h : Cl P f #[c0, c1, c2] K w) : FnV P (.func (.func f) #[] #[c0, c1, c2]) #[] K w := .inl ⟨he, by simpa using h⟩
theorem fn04 {f : FuncId} {c0 c1 c2 c3 : Value} (he : ∀ args w, (callFunc f args).run P w = .ok (.enter f args) w) (h : Cl P f #[c0, c1, c2, c3] K w) : FnV P (.func (.func f) #[] #[c0, c1, c2, c3]) #[] K w := .inl ⟨he, by simpa using h⟩
theorem fn10 {f : FuncId} {x0 : Value} (he : ∀ args w, (callFunc f args).run P w = .ok (.enter f args) w) (h : Cl P f #[x0] K w) : FnV P (.func (.func f) #[] #[]) #[x0] K w := .inl ⟨he, by simpa using h⟩
theorem fn11 {f : FuncId} {x0 c0 : Value} (he : ∀ args w, (callFunc f args).run P w = .ok (.enter f args) w) (h : Cl P f #[x0, c0] K w) : FnV P (.func (.func f) #[] #[c0]) #[x0] K w := .inl ⟨he, by simpa using h⟩
theorem fn12 {f : FuncId} {x0 c0 c1 : Value} (he : ∀ args w, (callFunc f args).run P w = .ok (.enter f args) w) (h : Cl P f #[x0, c0, c1] K w) : FnV P (.func (.func f) #[] #[c0, c1]) #[x0] K w := .inl ⟨he, by simpa using h⟩
theorem fn13 {f : FuncId} {x0 c0 c1 c2 : Value} (he : ∀ args w, (callFunc f args).run P w = .ok (.enter f args) w) (h : Cl P f #[x0, c0, c1, c2] K w) : FnV P (.func (.func f) #[] #[c0, c1, c2]) #[x0] K w := .inl ⟨he, by simpa using h⟩
theorem fn14 {f : FuncId} {x0 c0 c1 c2 c3 : Value} (he : ∀ args w, (callFunc f args).run P w = .ok (.enter f args) w) (h : Cl P f #[x0, c0, c1, c2, c3] K w) : FnV P (.func (.func f) #[] #[c0, c1, c2, c3]) #[x0] K w := .inl ⟨he, by simpa using h⟩
theorem fn20 {f : FuncId} {x0 x1 : Value} (he : ∀ args w, (callFunc f args).run P w = .ok (.enter f args) w) (h : Cl P f #[x0, x1] K w) : FnV P (.func (.func f) #[] #[]) #[x0, x1] K w := .inl ⟨he, by simpa using h⟩
theorem fn21 {f : FuncId} {x0 x1 c0 : Value} (he : ∀ args w, (callFunc f args).run P w = .ok (.enter f args) w) (h : Cl P f #[x0, x1, c0] K w) : FnV P (.func (.func f) #[] #[c0]) #[x0, x1] K w := .inl ⟨he, by simpa using h⟩
theorem fn22 {f : FuncId} {x0 x1 c0 c1 : Value} (he : ∀ args w, (callFunc f args).run P w = .ok (.enter f args) w) (h : Cl P f #[x0, x1, c0, c1] K w) : FnV P (.func (.func f) #[] #[c0, c1]) #[x0, x1] K w := .inl ⟨he, by simpa using h⟩
theorem fn23 {f : FuncId} {x0 x1 c0 c1 c2 : Value} (he : ∀ args w, (callFunc f args).run P w = .ok (.enter f args) w) (h : Cl P f #[x0, x1, c0, c1, c2] K w) : FnV P (.func (.func f) #[] #[c0, c1, c2]) #[x0, x1] K w := .inl ⟨he, by simpa using h⟩
theorem fn24 {f : FuncId} {x0 x1 c0 c1 c2 c3 : Value} (he : ∀ args w, (callFunc f args).run P w = .ok (.enter f args) w) (h : Cl P f #[x0, x1, c0, c1, c2, c3] K w) : FnV P (.func (.func f) #[] #[c0, c1, c2, c3]) #[x0, x1] K w := .inl ⟨he, by simpa using h⟩
theorem fn30 {f : FuncId} {x0 x1 x2 : Value} (he : ∀ args w, (callFunc f args).run P w = .ok (.enter f args) w) (h : Cl P f #[x0, x1, x2] K w) : FnV P (.func (.func f) #[] #[]) #[x0, x1, x2] K w := .inl ⟨he, by simpa using h⟩
theorem fn31 {f : FuncId} {x0 x1 x2 c0 : Value} (he : ∀ args w, (callFunc f args).run P w = .ok (.enter f args) w) (h : Cl P f #[x0, x1, x2, c0] K w) : FnV P (.func (.func f) #[] #[c0]) #[x0, x1, x2] K w := .inl ⟨he, by simpa using h⟩
theorem fn32 {f : FuncId} {x0 x1 x2 c0 c1 : Value} (he : ∀ args w, (callFunc f args).run P w = .ok (.enter f args) w) (h : Cl P f #[x0, x1, x2, c0, c1] K w) : FnV P (.func (.func f) #[] #[c0, c1]) #[x0, x1, x2] K w := .inl ⟨he, by simpa using h⟩
theorem fn33 {f : FuncId} {x0 x1 x2 c0 c1 c2 : Value} (he : ∀ args w, (callFunc f args).run P w = .ok (.enter f args) w) (h : Cl P f #[x0, x1, x2, c0, c1, c2] K w) : FnV P (.func (.func f) #[] #[c0, c1, c2]) #[x0, x1, x2] K w := .inl ⟨he, by simpa using h⟩
theorem fn34 {f : FuncId} {x0 x1 x2 c0 c1 c2 c3 : Value} (he : ∀ args w, (callFunc f args).run P w = .ok (.enter f args) w) (h : Cl P f #[x0, x1, x2, c0, c1, c2, c3] K w) : FnV P (.func (.func f) #[] #[c0, c1, c2, c3]) #[x0, x1, x2] K w := .inl ⟨he, by simpa using h⟩
theorem fn40 {f : FuncId} {x0 x1 x2 x3 : Value} (he : ∀ args w, (callFunc f args).run P w = .ok (.enter f args) w) (h : Cl P f #[x0, x1, x2, x3] K w) : FnV P (.func (.func f) #[] #[]) #[x0, x1, x2, x3] K w := .inl ⟨he, by simpa using h⟩
theorem fn50 {f : FuncId} {x0 x1 x2 x3 x4 : Value} (he : ∀ args w, (callFunc f args).run P w = .ok (.enter f args) w) (h : Cl P f #[x0, x1, x2, x3, x4] K w) : FnV P (.func (.func f) #[] #[]) #[x0, x1, x2, x3, x4] K w := .inl ⟨he, by simpa using h⟩
theorem fn60 {f : FuncId} {x0 x1 x2 x3 x4 x5 : Value} (he : ∀ args w, (callFunc f args).run P w = .ok (.enter f args) w) (h : Cl P f #[x0, x1, x2, x3, x4, x5] K w) : FnV P (.func (.func f) #[] #[]) #[x0, x1, x2, x3, x4, x5] K w := .inl ⟨he, by simpa using h⟩
theorem fn70 {f : FuncId} {x0 x1 x2 x3 x4 x5 x6 : Value} (he : ∀ args w, (callFunc f args).run P w = .ok (.enter f args) w) (h : Cl P f #[x0, x1, x2, x3, x4, x5, x6] K w) : FnV P (.func (.func f) #[] #[]) #[x0, x1, x2, x3, x4, x5, x6] K w := .inl ⟨he, by simpa using h⟩
theorem ia0 {es len c : Nat} {k : IntKind} {i : Int} (h0 : 0 ≤ i) (h1 : i < (len : Int)) (hk : K (.pointer (some ⟨b, i.toNat * es, none⟩)) w) : IA es (.slice (some ⟨b, 0, none⟩) len c) (.int k i) K w :=
  ia_ok h0 h1 (by rw [Nat.zero_add]; exact hk)
theorem In.front {A : HP} (i : In A L) : ∃ M, ∀ h, Sat L h → Sat (A :: M) h := by
  induction i with
  | h L => exact ⟨L, fun _ s => s⟩
  | t B L _ ih =>
    obtain ⟨M, h1⟩ := ih
    exact ⟨B :: M, fun h s => (s.under h1).swap⟩
section
variable {α : Type} {f : α → List Value} {S : List α} {elem es j : Nat} {sv : Value}
/-- An element of a row, wherever the row stands in the list. -/
theorem rw_at (d : D w0 L w) (i : In (Rw elem es sv S.length (S.flatMap f)) L) (hf : ∀ x, (f x).length = es) (hn : n < S.length) :
    ∃ (b : Nat) (cs : List Value), (∀ K : Value → WP, K (.pointer (some ⟨b, n * es, none⟩)) w → IA es sv (.int .i64 n) K w) ∧ hw w b = some (.cells cs.toArray elem (0, 0)) ∧ ∀ j x, (f S[n])[j]? = some x → cs[n * es + j]? = some x := by
  obtain ⟨M, h⟩ := i.front
  obtain ⟨b, cap, cs, rfl, g, hc⟩ := rec_at (i := (n : Int)) (L := M) hf ⟨h _ d.1, d.2⟩ (by omega) (by omega)
  exact ⟨b, cs, fun K k => ia0 (by omega) (by omega) (by simpa using k), g, fun j x hx => by simpa using hc j x (by simpa using hx)⟩
theorem rw_fld (d : D w0 L w) (i : In (Rw elem es sv S.length (S.flatMap f)) L) (hf : ∀ x, (f x).length = es) (hn : n < S.length) (hv : (f S[n])[j]? = some v) (k : K v w) : IA es sv (.int .i64 n) (fun p => FA p j fun q => Ld1 q fun u => K u) w := by
  obtain ⟨b, cs, h1, g, hc⟩ := rw_at d i hf hn
  refine h1 _ ?_
  rw [FA_p]
  exact ld1 g (hc j v hv) k
theorem rw_el1 (d : D w0 L w) (i : In (Rw elem es sv S.length (S.flatMap f)) L) (hf : ∀ x, (f x).length = es) (hn : n < S.length) (hv : (f S[n])[0]? = some v) (k : K v w) : IA es sv (.int .i64 n) (fun p => Ld1 p fun u => K u) w := by
  obtain ⟨b, cs, h1, g, hc⟩ := rw_at d i hf hn
  exact h1 _ (ld1 g (hc 0 v hv) k)
theorem rw_elN (d : D w0 L w) (i : In (Rw elem es sv S.length (S.flatMap f)) L) (hf : ∀ x, (f x).length = es) (hn : n < S.length) (k : K (.agg (f S[n]).toArray) w) : IA es sv (.int .i64 n) (fun p => LdN es p fun u => K u) w := by
  obtain ⟨b, cs, h1, g, hc⟩ := rw_at d i hf hn
  exact h1 _ (ldN g (f S[n]) (hf _) hc k)
theorem rw_ptr {cs : List Value} (d : D w0 L w) (i : In (Rw elem es sv n cs) L) (hn : 0 < n) : ∃ b c, sv = .slice (some ⟨b, 0, none⟩) n c := by
  obtain ⟨M, h⟩ := i.front
  obtain ⟨b, c, junk, e, _⟩ := Rw.block (h _ d.1) hn
  exact ⟨b, c, e⟩
theorem qia {c m : Nat} {k : IntKind} (hn : n < m) (kk : B (.pointer (some ⟨b, n * es, none⟩)) w) : QE I (fun KK => IA es (.slice (some ⟨b, 0, none⟩) m c) (.int k (n : Int)) fun v => KK v) B w :=
  qe _ (fun _ _ => ia0 (by omega) (by omega) ⟨by simp, rfl⟩) kk
theorem qia0 {c m : Nat} {k : IntKind} (hn : 0 < m) (kk : B (.pointer (some ⟨b, 0, none⟩)) w) : QE I (fun KK => IA es (.slice (some ⟨b, 0, none⟩) m c) (.int k 0) fun v => KK v) B w :=
  qe _ (fun _ _ => ia0 (by omega) (by omega) ⟨by simp, rfl⟩) kk
theorem rw_cells {c m : Nat} (d : D w0 L w) (i : In (Rw elem es (.slice (some ⟨b, 0, none⟩) m c) S.length (S.flatMap f)) L) (hf : ∀ x, (f x).length = es) (hn : n < S.length) : ∃ cs : List Value, hw w b = some (.cells cs.toArray elem (0, 0)) ∧ ∀ j x, (f S[n])[j]? = some x → cs[n * es + j]? = some x := by
  obtain ⟨M, h⟩ := i.front
  obtain ⟨b', cap, cs, e, g, hc⟩ := rec_at (i := (n : Int)) (L := M) hf ⟨h _ d.1, d.2⟩ (by omega) (by omega)
  injection e with e1 e2 e3
  injection e1 with e1
  injection e1 with e1
  subst e1
  exact ⟨cs, g, fun j x hx => by simpa using hc j x (by simpa using hx)⟩
theorem qln {c m : Nat} (i : In (Rw elem es (.slice (some ⟨b, 0, none⟩) m c) S.length (S.flatMap f)) L) (hf : ∀ x, (f x).length = es) (hn : n < S.length) (k : B (.agg (f S[n]).toArray) w) : QE (D w0 L) (fun KK => LdN es (.pointer (some ⟨b, n * es, none⟩)) fun v => KK v) B w :=
  qe _ (fun w' d => by
    obtain ⟨cs, g, hc⟩ := rw_cells d i hf hn
    exact ldN g (f S[n]) (hf _) hc ⟨rfl, rfl⟩) k
theorem ql1 {c m : Nat} (i : In (Rw elem es (.slice (some ⟨b, 0, none⟩) m c) S.length (S.flatMap f)) L) (hf : ∀ x, (f x).length = es) (hn : n < S.length) (hv : (f S[n])[j]? = some v) (k : B v w) : QE (D w0 L) (fun KK => Ld1 (.pointer (some ⟨b, n * es + j, none⟩)) fun v => KK v) B w :=
  qe _ (fun w' d => by
    obtain ⟨cs, g, hc⟩ := rw_cells d i hf hn
    exact ld1 g (hc j v hv) ⟨rfl, rfl⟩) k
theorem ql0 {c m : Nat} (i : In (Rw elem es (.slice (some ⟨b, 0, none⟩) m c) S.length (S.flatMap f)) L) (hf : ∀ x, (f x).length = es) (hn : n < S.length) (hv : (f S[n])[0]? = some v) (k : B v w) : QE (D w0 L) (fun KK => Ld1 (.pointer (some ⟨b, n * es, none⟩)) fun v => KK v) B w :=
  ql1 (j := 0) i hf hn hv k
/-- An element written anew. -/
theorem rw_set {L' : List HP} {m o : Nat} (d : D w0 L w) (hn : n < S.length) (y : α) (r : Rp (Rw elem es sv S.length (S.flatMap f)) (Rw elem es sv (S.set n y).length ((S.set n y).flatMap f)) L L') (hf : ∀ x, (f x).length = es) (hm : v.cells.size = m) (ho : o + m ≤ es)
    (hc : ∀ x ∈ v.cells.toList, x.oneCell' = true) (hy : splice (f S[n]) o v.cells.toList = f y) :
    ∃ b : Nat, (∀ K : Value → WP, K (.pointer (some ⟨b, n * es, none⟩)) w → IA es sv (.int .i64 n) K w) ∧ ∀ K : Value → WP, (∀ w', D w0 L' w' → K undef w') → St m (.pointer (some ⟨b, n * es + o, none⟩)) v K w := by
  obtain ⟨M, f1, f2⟩ := r.front
  have d1 : D w0 (Rw elem es sv S.length (S.flatMap f) :: M) w := ⟨f1 _ d.1, d.2⟩
  obtain ⟨b, cap, cs, rfl, g, hc'⟩ := rec_at (i := (n : Int)) hf d1 (by omega) (by omega)
  refine ⟨b, fun K k => ia0 (by omega) (by omega) (by simpa using k), fun K k => ?_⟩
  refine rec_st (i := (n : Int)) hf d1 (by omega) (by omega) (o := o) (by simp) hm ho hc y (by simpa using hy) fun w' d' => k w' ⟨f2 _ (by simpa using d'.1), d'.2⟩
theorem rw_st {L' : List HP} (d : D w0 L w) (hn : n < S.length) (y : α) (r : Rp (Rw elem es sv S.length (S.flatMap f)) (Rw elem es sv (S.set n y).length ((S.set n y).flatMap f)) L L') (hf : ∀ x, (f x).length = es) (hv : v.cells.toList = f y)
    (hc : ∀ x ∈ f y, x.oneCell' = true) (k : ∀ w', D w0 L' w' → K undef w') : IA es sv (.int .i64 n) (fun p => St es p v K) w := by
  obtain ⟨b, h1, h2⟩ := rw_set (o := 0) (m := es) d hn y r hf (by rw [← Array.length_toList, hv, hf]) (by omega) (by rw [hv]; exact hc) (by rw [hv, splice_whole (by rw [hf, hf])])
  exact h1 _ (by simpa using h2 K k)
theorem rw_stf {L' : List HP} {m o : Nat} (d : D w0 L w) (hn : n < S.length) (y : α) (r : Rp (Rw elem es sv S.length (S.flatMap f)) (Rw elem es sv (S.set n y).length ((S.set n y).flatMap f)) L L') (hf : ∀ x, (f x).length = es) (hm : v.cells.size = m) (ho : o + m ≤ es)
    (hc : ∀ x ∈ v.cells.toList, x.oneCell' = true) (hy : splice (f S[n]) o v.cells.toList = f y) (k : ∀ w', D w0 L' w' → K undef w') : IA es sv (.int .i64 n) (fun p => FA p o fun q => St m q v K) w := by
  obtain ⟨b, h1, h2⟩ := rw_set d hn y r hf hm ho hc hy
  refine h1 _ ?_
  rw [FA_p]
  exact h2 K k
theorem rw_fld0 (d : D w0 L w) (i : In (Rw elem es sv S.length (S.flatMap f)) L) (hf : ∀ x, (f x).length = es) (hn : 0 < S.length) (hv : (f S[0])[j]? = some v) (k : K v w) : IA es sv (.int .i64 0) (fun p => FA p j fun q => Ld1 q fun u => K u) w := rw_fld (n := 0) d i hf hn hv k
theorem rw_el10 (d : D w0 L w) (i : In (Rw elem es sv S.length (S.flatMap f)) L) (hf : ∀ x, (f x).length = es) (hn : 0 < S.length) (hv : (f S[0])[0]? = some v) (k : K v w) : IA es sv (.int .i64 0) (fun p => Ld1 p fun u => K u) w := rw_el1 (n := 0) d i hf hn hv k
theorem rw_elN0 (d : D w0 L w) (i : In (Rw elem es sv S.length (S.flatMap f)) L) (hf : ∀ x, (f x).length = es) (hn : 0 < S.length) (k : K (.agg (f S[0]).toArray) w) : IA es sv (.int .i64 0) (fun p => LdN es p fun u => K u) w := rw_elN (n := 0) d i hf hn k
end
/-- The pure steps, as one fact for simp. -/
theorem SEM : (type_of% @NilC_p) ∧ (type_of% @NilC_f) ∧ (type_of% @NilC_y) ∧ (type_of% @FA_p) ∧ (type_of% @Ext_20) ∧ (type_of% @Ext_21) ∧ (type_of% @Ext_30) ∧ (type_of% @Ext_31) ∧ (type_of% @Ext_32) ∧ (type_of% @Ext_40) ∧ (type_of% @Ext_41) ∧ (type_of% @Ext_42) ∧ (type_of% @Ext_43) ∧ (type_of% @LenS_s) ∧ (type_of% @ConvI_i) ∧ (type_of% @Cnd_b) ∧ (type_of% @Grd_t) ∧ (type_of% @Grd_f) ∧ (type_of% @BinI_add) ∧ (type_of% @BinI_sub) ∧ (type_of% @BinI_mul) ∧ (type_of% @BinI_quo) ∧ (type_of% @BinI_rem) ∧ (type_of% @BinI_and) ∧ (type_of% @BinI_or) ∧ (type_of% @BinI_xor) ∧ (type_of% @BinI_andNot) ∧ (type_of% @BinI_eql) ∧ (type_of% @BinI_neq) ∧ (type_of% @BinI_lss) ∧ (type_of% @BinI_leq) ∧ (type_of% @BinI_gtr) ∧ (type_of% @BinI_geq) ∧ (type_of% @BinI_shl) ∧ (type_of% @BinI_shr) ∧ (type_of% @Pick_b) ∧ (type_of% @Un_not) ∧ (type_of% @Un_neg) ∧ (type_of% @EqB_b) ∧ (type_of% @EqP_pn) ∧ (type_of% @EqP_nn) ∧ (type_of% @EqP_np) ∧ (type_of% @cells_agg) ∧ (type_of% @cells_int) ∧ (type_of% @cells_bool) ∧ (type_of% @cells_ptr) ∧ (type_of% @cells_sl) ∧ (type_of% @cells_map) ∧ (type_of% @cells_fn) ∧ (type_of% @decide_eq_true_eq) ∧ (type_of% @decide_eq_false_iff_not) ∧ (type_of% @Bool.not_eq_true) ∧ (type_of% @Bool.not_eq_false) ∧ (type_of% @Bool.true_eq_false) ∧ (type_of% @Bool.false_eq_true) ∧ (type_of% @Bool.not_true) ∧ (type_of% @Bool.not_false) ∧ (type_of% @Bool.not_eq_eq_eq_not) ∧ (type_of% @true_implies) ∧ (type_of% @false_implies) ∧ (type_of% @and_true) ∧ (type_of% @true_and) ∧ (type_of% @not_true_eq_false) ∧ (type_of% @not_false_eq_true) ∧ (type_of% @and_self) ∧ (type_of% @Nat.zero_add) ∧ (type_of% @Int.toNat_natCast) ∧ (type_of% @Int.toNat_zero) ∧ (∀ (a : Value) (l : List Value) (i : Nat), (a :: l).drop (i + 1) = l.drop i) ∧ (∀ (l : List Value), l.drop 0 = l) ∧ (∀ (a : Value) (l : List Value) (i : Nat), (a :: l).take (i + 1) = a :: l.take i) ∧ (∀ (l : List Value), l.take 0 = []) ∧ (∀ (α : Prop), (α → True) = True) ∧ (∀ (a b : Value), cond true a b = a) ∧ (∀ (a b : Value), cond false a b = b) ∧ (∀ (a b : Bool), cond true a b = a) ∧ (∀ (a b : Bool), cond false a b = b) :=
  ⟨@NilC_p, @NilC_f, @NilC_y, @FA_p, @Ext_20, @Ext_21, @Ext_30, @Ext_31, @Ext_32, @Ext_40, @Ext_41, @Ext_42, @Ext_43, @LenS_s, @ConvI_i, @Cnd_b, @Grd_t, @Grd_f, @BinI_add, @BinI_sub, @BinI_mul, @BinI_quo, @BinI_rem, @BinI_and, @BinI_or, @BinI_xor, @BinI_andNot, @BinI_eql, @BinI_neq, @BinI_lss, @BinI_leq, @BinI_gtr, @BinI_geq, @BinI_shl, @BinI_shr, @Pick_b, @Un_not, @Un_neg, @EqB_b, @EqP_pn, @EqP_nn, @EqP_np, @cells_agg, @cells_int, @cells_bool, @cells_ptr, @cells_sl, @cells_map, @cells_fn, @decide_eq_true_eq, @decide_eq_false_iff_not, @Bool.not_eq_true, @Bool.not_eq_false, @Bool.true_eq_false, @Bool.false_eq_true, @Bool.not_true, @Bool.not_false, @Bool.not_eq_eq_eq_not, @true_implies, @false_implies, @and_true, @true_and, @not_true_eq_false, @not_false_eq_true, @and_self, @Nat.zero_add, @Int.toNat_natCast, @Int.toNat_zero, (fun _ _ _ => rfl), (fun _ => rfl), (fun _ _ _ => rfl), (fun l => by simp), (fun α => implies_true α), (fun _ _ => rfl), (fun _ _ => rfl), (fun _ _ => rfl), (fun _ _ => rfl)⟩
theorem SPL : (∀ (cs : List Value) (o : Nat), splice cs o [] = cs) ∧ (∀ (cs : List Value) (o : Nat) (v : Value) (r : List Value), splice cs o (v :: r) = splice (cs.set o v) (o + 1) r) ∧ (∀ (a v : Value) (l : List Value), (a :: l).set 0 v = v :: l) ∧ (∀ (a v : Value) (l : List Value) (i : Nat), (a :: l).set (i + 1) v = a :: l.set i v) ∧ (∀ (l : List Value), l.toArray.toList = l) ∧ (∀ n : Nat, 0 + n = n) ∧ (type_of% @cells_agg) ∧ (type_of% @cells_int) ∧ (type_of% @cells_bool) ∧ (type_of% @cells_ptr) ∧ (type_of% @cells_sl) ∧ (type_of% @cells_map) ∧ (type_of% @cells_fn) :=
  ⟨(fun _ _ => rfl), (fun _ _ _ _ => rfl), (fun _ _ _ => rfl), (fun _ _ _ _ => rfl), (fun _ => rfl), (Nat.zero_add), @cells_agg, @cells_int, @cells_bool, @cells_ptr, @cells_sl, @cells_map, @cells_fn⟩
end
end Go.Jac
