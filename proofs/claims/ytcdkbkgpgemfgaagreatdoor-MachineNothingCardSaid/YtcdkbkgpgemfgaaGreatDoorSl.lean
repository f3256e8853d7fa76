/- What Go's library does to rows: the first that fits, a copy, a part taken out. -/
import Derived.Test.YtcdkbkgpgemfgaaGreatDoorSk
import Derived.Lib.SliceRun
import Derived.Laws.OwnMore
namespace Go.Jac
open Go
/-- The first place that fits; -1: there is none. -/
def fidx {α : Type} (p : α → Bool) (l : List α) : Int := if l.findIdx p < l.length then (l.findIdx p : Int) else -1
section
variable {P : Program} {w0 w : World} {L : List HP} {K : Value → WP} {elem es bytes n m : Nat} {sv y : Value} {cs X Y Z : List Value} {zero : Array Value}
variable {α : Type} {f : α → List Value} {p : α → Bool} {S : List α}
theorem src_rw (d : D w0 (Rw elem es sv n cs :: L) w) (h1 : ∀ u ∈ cs, u.oneCell' = true) : SrcV es sv n cs w := by
  obtain ⟨⟨h1', h2, s, hr, l⟩, _⟩ := d
  rcases hr with ⟨rfl, rfl, rfl⟩ | ⟨b, cap, junk, rfl, hle, hl, hl2, hb⟩
  · exact .nil 0 rfl rfl rfl
  · refine .slice ⟨b, 0, none⟩ cap rfl hl (fun j u hu => ?_) h1
    have g : hw w b = some (.cells (cs ++ junk).toArray elem (0, 0)) := s.l hb
    rw [add_of, cell_of g, Nat.zero_add, List.getElem?_append_left (List.getElem?_eq_some_iff.1 hu).1]
    exact hu
/-! ### The first that fits -/
def GIdxF (P : Program) (LD : Value → (Value → WP) → WP) (es : Nat) (a0 a1 : Value) (KR : Value → WP) : WP :=
  LenS a0 fun v7 =>
  LoopC [(.int .i64 0), (.int .i64 0)] fun vK vs => AllE <|
  UN vs fun v4 vs =>
  UN vs fun v8 _ =>
  BinI .lss v8 v7 fun v9 =>
  Cnd v9 (IA es a0 v8 fun v14 =>
  LD v14 fun v15 =>
  FnV P a1 #[v15] fun v16 =>
  Cnd v16 (KR v8)
  (BinI .add v8 (.int .i64 1) fun v18 =>
  vK [v4, v18]))
  (KR (.int .i64 (-1)))
theorem gidxf_ok {LD : Value → (Value → WP) → WP} {enc : α → Value} (hf : ∀ x, (f x).length = es) (hS : S.length ≤ 4294967296)
    (hld : ∀ (b o : Nat) (x : α) (t : TypeId) (cs : List Value) (w : World) (K : Value → WP), hw w b = some (.cells cs.toArray t (0, 0)) → (∀ j v, (f x)[j]? = some v → cs[o + j]? = some v) → K (enc x) w → LD (.pointer (some ⟨b, o, none⟩)) K w)
    (d : D w0 (Rw elem es sv S.length (S.flatMap f) :: L) w)
    (hy : ∀ (x : α) (w : World) (K : Value → WP), x ∈ S → D w0 (Rw elem es sv S.length (S.flatMap f) :: L) w → (∀ w', D w0 (Rw elem es sv S.length (S.flatMap f) :: L) w' → K (.bool (p x)) w') → FnV P y #[enc x] K w)
    (k : ∀ w', D w0 (Rw elem es sv S.length (S.flatMap f) :: L) w' → K (.int .i64 (fidx p S)) w') : GIdxF P LD es sv y K w := by
  obtain ⟨q, c, rfl, -⟩ := Rw.shape d.1
  unfold GIdxF
  rw [LenS_s]
  refine ⟨fun vs w' => ∃ (u : Value) (i : Nat), vs = [u, .int .i64 i] ∧ i ≤ S.findIdx p ∧ D w0 (Rw elem es (.slice q S.length c) S.length (S.flatMap f) :: L) w', fun vs _ => match vs with | [_, .int _ i] => S.length - i.toNat | _ => 0, ⟨_, 0, rfl, by omega, d⟩, ?_⟩
  rintro _ w' ⟨u, i, rfl, hi, d'⟩ _
  have hle : S.findIdx p ≤ S.length := List.findIdx_le_length
  simp only [UN, SEM]
  refine ⟨fun hlt => ?_, fun hge => ?_⟩
  · have hlt' : i < S.length := by omega
    obtain ⟨b, cap, cs, e, g, hc⟩ := rec_at hf d' (i := (i : Int)) (by omega) hlt
    cases e
    refine ia_ok (by omega) hlt ?_
    refine hld _ _ S[i] _ _ _ _ g (fun j x hx => ?_) ?_
    · rw [Nat.zero_add]; exact hc j x hx
    refine hy S[i] w' _ (List.getElem_mem _) d' fun w2 d2 => ?_
    simp only [SEM]
    refine ⟨fun hz => ?_, fun hz => ?_⟩
    · have e : S.findIdx p = i := by
        rcases Nat.lt_or_ge i (S.findIdx p) with h | h
        · have := List.not_of_lt_findIdx h
          rw [hz] at this; cases this
        · omega
      have := k _ d2
      rwa [fidx, if_pos (by omega), e] at this
    · have : i < S.findIdx p := by
        rcases Nat.lt_or_ge i (S.findIdx p) with h | h
        · exact h
        · have e : i = S.findIdx p := by omega
          have := List.findIdx_getElem (p := p) (xs := S) (w := by omega)
          subst e
          rw [this] at hz; cases hz
      rw [w64 (by omega) (by omega)]
      exact ⟨⟨u, i + 1, by simp, this, d2⟩, by show S.length - ((i : Int) + 1).toNat < S.length - (i : Int).toNat; omega⟩
  · have := k _ d'
    rwa [fidx, if_neg (by omega)] at this
theorem hldN (b o : Nat) (x : α) (t : TypeId) (cs : List Value) (w : World) (K : Value → WP) (hf : ∀ x, (f x).length = es) (g : hw w b = some (.cells cs.toArray t (0, 0))) (hc : ∀ j v, (f x)[j]? = some v → cs[o + j]? = some v) (k : K (.agg (f x).toArray) w) : LdN es (.pointer (some ⟨b, o, none⟩)) K w :=
  ldN g (f x) (hf x) hc k
theorem hld1 (b o : Nat) (x : Value) (t : TypeId) (cs : List Value) (w : World) (K : Value → WP) (g : hw w b = some (.cells cs.toArray t (0, 0))) (hc : ∀ j v, [x][j]? = some v → cs[o + j]? = some v) (k : K x w) : Ld1 (.pointer (some ⟨b, o, none⟩)) K w :=
  ld1 g (by simpa using hc 0 x rfl) k
/-! ### A copy -/
theorem slnil {t e : TypeId} {a : Option Addr} {n c : Nat} {ox oy : Operand} (ht : P.underlying t = some (.slice e)) (k : K (.bool a.isNone) w) : BinX P .eql t ox oy (.slice a n c) (.slice none 0 0) K w := by
  have hg : (eqGuard .eql t ox oy (.slice a n c) (.slice none 0 0)).run P w = .ok () w := by unfold eqGuard; rfl
  exact ⟨_, w, by rw [Sem.run_bind, hg]; exact Lib.run_eql_slice_nil w t e a n c 0 0 ht, k⟩
def GClone (P : Program) (t : TypeId) (ox : Operand) (elem es bytes : Nat) (zero : Array Value) (a0 : Value) (KR : Value → WP) : WP :=
  BinX P .eql t ox (.const (.slice none 0 0)) a0 (.slice none 0 0) fun v4 =>
  Cnd v4 (KR (.slice none 0 0))
  (BSlC elem es zero 0 #[] fun v5 =>
  AppC elem es bytes zero v5 a0 fun v7 =>
  KR v7)
theorem gclone_src {t : TypeId} {ox : Operand} (ht : P.underlying t = some (.slice elem)) (hz : zero.size = es) (h1 : ∀ u ∈ cs, u.oneCell' = true) (hb : n * bytes ≤ 140737488355328) (h63 : n < 4611686018427387904) (d : D w0 L w) (hsl : ∃ q m c, sv = .slice q m c)
    (hs : ∀ w', D w0 L w' → SrcV es sv n cs w')
    (k : ∀ sv' w', D w0 (Rw elem es sv' n cs :: L) w' → K sv' w') : GClone P t ox elem es bytes zero sv K w := by
  obtain ⟨q, m, c, rfl⟩ := hsl
  unfold GClone
  refine slnil ht ?_
  rw [Cnd_b]
  refine ⟨fun hq => ?_, fun hq => ?_⟩
  · refine k _ _ ?_
    have : n = 0 ∧ cs = [] := by
      rcases hs _ d with ⟨a, c', h, _⟩ | ⟨c', h, hn, hc⟩
      · injection h with h; subst h; cases hq
      · exact ⟨hn, hc⟩
    obtain ⟨rfl, rfl⟩ := this
    exact ⟨Rw.nil _ _ d.1, d.2⟩
  · refine bsl0 d fun b w' d' => ?_
    have d1 : D w0 (Rw elem es (.slice (some ⟨b, 0, none⟩) 0 0) 0 [] :: L) w' := ⟨Rw.mk (junk := []) (cs := []) d'.1 (Nat.le_refl _) (by simp) (by simp), d'.2⟩
    have hs' := hs _ d'.tail
    rcases Nat.eq_zero_or_pos n with h0 | h0
    · subst h0
      have hc0 : cs = [] := by
        have hl : cs.length = 0 * es := by
          rcases hs' with ⟨a, c', h, hl, _⟩ | ⟨c', h, hn, hc⟩
          · exact hl
          · simp [hc]
        exact List.length_eq_zero_iff.1 (by simpa using hl)
      subst hc0
      exact ⟨_, _, _, 0, [], rfl, hs', .inl ⟨rfl, Nat.le_refl _, k _ _ d1⟩⟩
    · refine d_app d1 hs' hz h0 (by simpa using hb) (by simpa using h63) h1 fun sv' w2 d2 => ?_
      simp only [Nat.zero_add, List.nil_append] at d2
      exact k _ _ d2
theorem gclone_ok {t : TypeId} {ox : Operand} (ht : P.underlying t = some (.slice elem)) (hz : zero.size = es) (h1 : ∀ u ∈ cs, u.oneCell' = true) (hb : n * bytes ≤ 140737488355328) (h63 : n < 4611686018427387904) (d : D w0 (Rw elem es sv n cs :: L) w)
    (k : ∀ sv' w', D w0 (Rw elem es sv' n cs :: Rw elem es sv n cs :: L) w' → K sv' w') : GClone P t ox elem es bytes zero sv K w :=
  gclone_src ht hz h1 hb h63 d (by obtain ⟨q, c, e, _⟩ := Rw.shape d.1; exact ⟨q, _, c, e⟩) (fun _ d' => src_rw d' h1) k
/-! ### Cells written anew -/
theorem clr_ok {b o c : Nat} {t : TypeId} (d : D w0 (cel b t cs :: L) w) (hm : 0 < m) (hz1 : ∀ u ∈ zero.toList, u.oneCell' = true) (hl : o + m * zero.size ≤ cs.length)
    (k : ∀ w', D w0 (cel b t (splice cs o (Builtin.zeroCells zero m).toList) :: L) w' → K (.tuple #[]) w') : Ex P (clrS zero (.slice (some ⟨b, o, none⟩) m c)) K w := by
  have h1 : ∀ u ∈ (Builtin.zeroCells zero m).toList, u.oneCell' = true := by
    intro u hu
    refine hz1 u ?_
    have : u ∈ Builtin.zeroCells zero m := by simpa using hu
    unfold Builtin.zeroCells at this
    rw [Array.mem_map] at this
    obtain ⟨i, hi, rfl⟩ := this
    have hi : i < m * zero.size := by simpa using hi
    have hp : 0 < zero.size := by
      rcases Nat.eq_zero_or_pos zero.size with h | h
      · rw [h] at hi; simp at hi
      · exact h
    have hlt := Nat.mod_lt i hp
    rw [getElem!_pos zero (i % zero.size) hlt]
    exact Array.mem_toList_iff.2 (Array.getElem_mem hlt)
  have g := d.get
  have hst : Storable w ⟨b, o, none⟩ (Builtin.zeroCells zero m).toList 0 := by
    intro j x hx
    have hj : j < m * zero.size := by
      have := (List.getElem?_eq_some_iff.1 hx).1
      rwa [zeros_len] at this
    refine ⟨h1 x (List.mem_of_getElem? hx), ?_, ?_⟩
    · rw [add_of, cell_of g]
      exact ⟨_, List.getElem?_eq_getElem (by omega)⟩
    · rw [add_of]; exact free_of g _
  refine ⟨.tuple #[], _, ?_, k _ ⟨?_, d.2.trans (Kp.stCells ⟨b, o, none⟩ (Builtin.zeroCells zero m).toList 0 w)⟩⟩
  · unfold clrS
    simp only [show m ≠ 0 by omega, if_false, Sem.run_bind, run_stCells _ _ _ hst, Result.andThen_ok, Sem.run_pure]
  · rw [hw_stCells _ cs 0 w g]
    exact d.1.set
theorem clr_0 {q : Option Addr} {c : Nat} (k : K (.tuple #[]) w) : Ex P (clrS zero (.slice q 0 c)) K w := by
  refine ⟨.tuple #[], w, ?_, k⟩
  cases q <;> rfl
theorem run_sl3 {t e : TypeId} {a : Option Addr} {len cap : Nat} {k1 k2 k3 : IntKind} {l h m : Int} (ht : P.underlying t = some (.slice e)) {i : TypeInfo} (hi : P.info? e = some i) (h0 : 0 ≤ l) (h1 : l ≤ h) (h2 : h ≤ m) (h3 : m ≤ cap)
    (k : K (.slice (if m.toNat = l.toNat then a else a.map (·.add (l.toNat * i.size))) (h.toNat - l.toNat) (m.toNat - l.toNat)) w) : Ex P (Instr.sliceAt t (.slice a len cap) (some (.int k1 l)) (some (.int k2 h)) (some (.int k3 m))) K w := by
  refine ⟨_, _, ?_, k⟩
  have e1 : l ≤ max h 0 := by omega
  have e2 : h ≤ max m 0 := by omega
  have e3 : 0 ≤ h := by omega
  have e4 : 0 ≤ m := by omega
  have hb : (Instr.sliceBounds true len cap (some (.int k1 l)) (some (.int k2 h)) (some (.int k3 m))).run P w = .ok (l.toNat, h.toNat, m.toNat) w := by
    simp [Instr.sliceBounds, Instr.sliceBound, asIntOf, h0, e1, e2, e3, e4, h3]
  simp only [Instr.sliceAt, Instr.slice, Sem.run_bind, run_underlying ht, Result.andThen_ok, hb, run_sizeOf hi, Sem.run_pure]
/-! ### A part taken out -/
def GDel (P : Program) (t : TypeId) (elem es bytes : Nat) (zero : Array Value) (a0 a1 a2 : Value) (KR : Value → WP) : WP :=
  LenS a0 fun v12 =>
  Ex P (Instr.sliceAt t a0 (some a1) (some a2) (some v12)) fun _ =>
  BinI .eql a1 a2 fun v16 =>
  Cnd v16 (KR a0)
  (LenS a0 fun v19 =>
  Drw <| QtC fun I =>
  QE I (fun KK => SlC es a0 none (some a1) fun v22 =>
  KK v22) fun v22_1 =>
  QE I (fun KK => SlC es a0 (some a2) none fun v25 =>
  KK v25) fun v25_1 =>
  AppC elem es bytes zero v22_1 v25_1 fun v26 =>
  LenS v26 fun v29 =>
  SlC es v26 (some v29) (some v19) fun v31 =>
  Ex P (clrS zero v31) fun _ =>
  KR v26)
theorem slc_ok {size len cap : Nat} {a : Option Addr} {lo hi : Option Value} {v : Value} (l h : Nat) (hh : match hi with | none => h = len | some v => ∃ k, v = .int k h ∧ h ≤ cap) (hl : match lo with | none => l = 0 | some v => ∃ k, v = .int k l ∧ l ≤ h)
    (hv : v = .slice (if cap = l then a else a.map (·.add (l * size))) (h - l) (cap - l)) (k : K v w) : SlC size (.slice a len cap) lo hi K w := by
  subst hv
  refine ⟨a, len, cap, l, h, rfl, ?_, ?_, k⟩
  · cases hi with
    | none => exact hh
    | some v => obtain ⟨k, e, h1⟩ := hh; exact ⟨k, h, e, by omega, by omega, by simp⟩
  · cases lo with
    | none => exact hl
    | some v => obtain ⟨k, e, h1⟩ := hl; exact ⟨k, l, e, by omega, by omega, by simp⟩
theorem gdel_ok {t : TypeId} {i j : Nat} (ht : P.underlying t = some (.slice elem)) (hinf : (P.info? elem).isSome = true) (hz : zero.size = es) (hz1 : ∀ u ∈ zero.toList, u.oneCell' = true) (h1 : ∀ u ∈ Z, u.oneCell' = true)
    (hij : i < j) (hjn : j ≤ n) (hX : X.length = i * es) (hY : Y.length = (j - i) * es) (h64 : n ≤ 4294967296)
    (d : D w0 (Rw elem es sv n (X ++ Y ++ Z) :: L) w) (k : ∀ sv' w', D w0 (Rw elem es sv' (i + (n - j)) (X ++ Z) :: L) w' → K sv' w') : GDel P t elem es bytes zero sv (.int .i64 i) (.int .i64 j) K w := by
  obtain ⟨inf, hi⟩ := Option.isSome_iff_exists.1 hinf
  obtain ⟨b, cap, junk, rfl, hcap, hl2, s⟩ := Rw.block d.1 (by omega)
  have hlen := Rw.len d.1
  have hZ : Z.length = (n - j) * es := by
    simp only [List.length_append, hX, hY] at hlen
    have e : n * es = i * es + (j - i) * es + (n - j) * es := by rw [← Nat.add_mul, ← Nat.add_mul]; congr 1; omega
    omega
  have d1 : D w0 (cel b elem (X ++ Y ++ Z ++ junk) :: L) w := ⟨s, d.2⟩
  unfold GDel
  rw [LenS_s]
  refine run_sl3 ht hi (by omega) (by omega) (by omega) (by omega) ?_
  rw [BinI_eql, Cnd_b]
  refine ⟨fun h => by simp at h; omega, fun _ => ?_⟩
  rw [LenS_s]
  have d1 := d1.drawn
  refine qt d1 ?_
  refine qe _ (fun w' _ => slc_ok 0 i ⟨_, rfl, by omega⟩ rfl rfl ⟨rfl, rfl⟩) ?_
  refine qe _ (fun w' _ => slc_ok j n rfl ⟨_, rfl, by omega⟩ rfl ⟨rfl, rfl⟩) ?_
  have e0 : (if cap = 0 then (some ⟨b, 0, none⟩ : Option Addr) else (some ⟨b, 0, none⟩ : Option Addr).map (·.add (0 * es))) = some ⟨b, 0, none⟩ := by
    split
    · rfl
    · simp [add_of]
  rw [e0, Nat.sub_zero, Nat.sub_zero]
  -- what stands behind the part
  have fin : ∀ (w' : World), D w0 (cel b elem (X ++ Z ++ (Y ++ Z ++ junk).drop Z.length) :: L) w' → (LenS (.slice (some ⟨b, 0, none⟩) (i + (n - j)) cap) fun v29 =>
      SlC es (.slice (some ⟨b, 0, none⟩) (i + (n - j)) cap) (some v29) (some (.int .i64 n)) fun v31 =>
      Ex P (clrS zero v31) fun _ =>
      K (.slice (some ⟨b, 0, none⟩) (i + (n - j)) cap)) w' := by
    intro w' d2
    rw [LenS_s]
    refine slc_ok (i + (n - j)) n ⟨_, rfl, hcap⟩ ⟨_, rfl, by omega⟩ rfl ?_
    rw [if_neg (by omega)]
    simp only [Option.map_some, add_of, Nat.zero_add]
    have hmul : (i + (n - j)) * es = X.length + Z.length := by rw [hX, hZ, Nat.add_mul]
    have hall : (X ++ Z ++ (Y ++ Z ++ junk).drop Z.length).length = cap * es := by
      have := hl2
      simp only [List.length_append, List.length_drop] at this ⊢
      omega
    refine clr_ok d2 (by omega) hz1 ?_ fun w3 d3 => ?_
    · rw [hall, hz, ← Nat.add_mul]; exact Nat.mul_le_mul_right _ (by omega)
    · have hzl : ((Builtin.zeroCells zero (n - (i + (n - j)))).toList).length = (j - i) * es := by rw [zeros_len, hz]; congr 1; omega
      have hsp : splice (X ++ Z ++ (Y ++ Z ++ junk).drop Z.length) ((i + (n - j)) * es) (Builtin.zeroCells zero (n - (i + (n - j)))).toList = (X ++ Z) ++ ((Builtin.zeroCells zero (n - (i + (n - j)))).toList ++ ((Y ++ Z ++ junk).drop Z.length).drop ((j - i) * es)) := by
        rw [splice_eq _ _ _ (by rw [hall, hzl, ← Nat.add_mul]; exact Nat.mul_le_mul_right _ (by omega)), hmul, ← List.length_append, List.take_left, hzl]
        rw [List.append_assoc, List.drop_append, List.drop_eq_nil_of_le (by omega), List.nil_append, Nat.add_sub_cancel_left]
      rw [hsp] at d3
      refine k _ _ ⟨Rw.mk d3.1 (by omega) ?_ ?_, d3.2⟩
      · rw [List.length_append, hX, hZ, ← Nat.add_mul]
      · rw [← hsp, splice_length]; exact hall
  rcases Nat.eq_or_lt_of_le hjn with e | hlt
  · subst e
    have hZ0 : Z = [] := List.length_eq_zero_iff.1 (by rw [hZ]; simp)
    subst hZ0
    refine ⟨_, _, _, 0, [], rfl, ?_, .inl ⟨rfl, by omega, ?_⟩⟩
    · rw [Nat.sub_self]
      split
      · exact .slice _ _ rfl (by simp) (fun j u hu => by simp at hu) (by simp)
      · exact .slice _ _ rfl (by simp) (fun j u hu => by simp at hu) (by simp)
    · have := fin _ (by simpa using d1)
      simpa using this
  · have g := d1.get
    rw [if_neg (by omega)]
    simp only [Option.map_some, add_of, Nat.zero_add]
    have hroom : i * es + Z.length ≤ (X ++ Y ++ Z ++ junk).length := by
      simp only [List.length_append]; omega
    refine ⟨_, _, _, n - j, Z, rfl, .slice _ _ rfl hZ (fun q u hu => ?_) h1, .inr (.inl ⟨b, 0, rfl, by omega, fun q hq => ?_, fun q hq => ?_, ?_⟩)⟩
    · rw [add_of, cell_of g]
      have hq := (List.getElem?_eq_some_iff.1 hu).1
      have hXY : (X ++ Y).length = j * es := by rw [List.length_append, hX, hY, ← Nat.add_mul]; congr 1; omega
      rw [List.append_assoc (X ++ Y), List.getElem?_append_right (by omega), hXY, Nat.add_sub_cancel_left, List.getElem?_append_left hq]
      exact hu
    · rw [cell_of g, List.getElem?_eq_getElem (by omega)]; rfl
    · exact free_of g _
    · refine fin _ ⟨?_, d1.2.trans (Kp.setCells _ _ _ _)⟩
      rw [hw_setCells Z _ _ _ g, Nat.zero_add]
      have e : splice (X ++ Y ++ Z ++ junk) (i * es) Z = X ++ Z ++ (Y ++ Z ++ junk).drop Z.length := by
        rw [splice_eq _ _ _ hroom, ← hX, List.append_assoc X, List.append_assoc X, List.take_left, List.drop_append]
        simp
      rw [e]
      exact d1.1.set
/-- The first elements of a row. -/
theorem slc_take {k : IntKind} {q : Nat} (hf : ∀ x, (f x).length = es) (hq : q ≤ S.length) (d : D w0 (Rw elem es sv S.length (S.flatMap f) :: L) w) (kk : ∀ sv', D w0 (Rw elem es sv' (S.take q).length ((S.take q).flatMap f) :: L) w → K sv' w) :
    SlC es sv none (some (.int k q)) K w := by
  have hlen : (S.take q).length = q := by simp; omega
  obtain ⟨⟨h1', h2, s, hr, l⟩, kp⟩ := d
  rcases hr with ⟨rfl, h0, hc⟩ | ⟨b, cap, junk, rfl, hle, hl, hl2, hb⟩
  · have hS : S = [] := List.length_eq_zero_iff.1 h0
    subst hS
    have : q = 0 := by simpa using hq
    subst this
    exact slc_ok 0 0 ⟨_, rfl, Nat.le_refl _⟩ rfl rfl (kk _ ⟨⟨h1', h2, s, .inl ⟨rfl, by simp, by simp⟩, l⟩, kp⟩)
  · refine slc_ok 0 q ⟨_, rfl, by omega⟩ rfl rfl ?_
    have e0 : (if cap = 0 then (some ⟨b, 0, none⟩ : Option Addr) else (some ⟨b, 0, none⟩ : Option Addr).map (·.add (0 * es))) = some ⟨b, 0, none⟩ := by
      split
      · rfl
      · simp [add_of]
    rw [e0, Nat.sub_zero, Nat.sub_zero]
    refine kk _ ⟨⟨h1', h2, s, .inr ⟨b, cap, (S.drop q).flatMap f ++ junk, by rw [hlen], by omega, flat_len hf, ?_, ?_⟩, l⟩, kp⟩
    · rw [← List.append_assoc, ← List.flatMap_append, List.take_append_drop]; exact hl2
    · rw [← List.append_assoc, ← List.flatMap_append, List.take_append_drop]; exact hb
/-- A row that is made. -/
theorem mks1 {z : Value} {kl kc : IntKind} (hb : bytes * n ≤ 281474976710656) (hn : n ≤ 4294967296) (d : D w0 L w) (k : ∀ sv w', D w0 (Rw elem 1 sv n (List.replicate n z) :: L) w' → K sv w') : MkSC elem 1 bytes #[z] (.int kl n) (.int kc n) K w := by
  refine ⟨kl, kc, n, n, rfl, rfl, by omega, by omega, (by have h := Int.ofNat_le.2 hb; rw [Int.natCast_mul] at h; exact h), by omega, k _ _ ⟨?_, d.2.trans (Kp.alloc _ _)⟩⟩
  have e : madeCells #[z] ((n : Int).toNat * 1) = (List.replicate n z ++ []).toArray := by
    apply Array.ext'
    rw [toList_madeCells_one]
    simp
  rw [hw_alloc, e]
  rw [Int.toNat_natCast]
  exact Rw.mk (junk := []) (Sat.new (hw_none w) d.1) (Nat.le_refl _) (by rw [List.length_replicate, Nat.mul_one]) (by rw [List.append_nil, List.length_replicate, Nat.mul_one])
end
end Go.Jac
