/- Several texts of this session's own, joined: Mi, Mj, Mk, Ml, Mm, Mn, Mo, Mp, Mq, Mr, Ms. -/
import Derived.Test.YtlcbfahjejgjlaaYd
import Derived.Laws.BytesString
import Derived.Laws.BytesArg
import Derived.Test.YtlcbfahjejgjlaaYc
set_option maxRecDepth 100000
set_option maxHeartbeats 8000000
namespace Go.Proofs.Ytlcbfahjejgjlaa
open Go Go.Jac
/-- The object that has the pages, and where a window begins there. -/
inductive BaseN (M : List Vo) : Nat → Vo → Vo → Int → Prop
  | z {x : Vo} (h : x.sl = false) : BaseN M 0 x x 0
  | s {n : Nat} {x y z : Vo} {t : Int} (h : x.sl = true) (hz : vfind M x.parent = some z) (k : BaseN M n z y t) : BaseN M (n + 1) x y (x.from_ + t)
theorem BaseN.sl {M : List Vo} {n : Nat} {x y : Vo} {t : Int} (h : BaseN M n x y t) : y.sl = false := by
  induction h with
  | z h => exact h
  | s _ _ _ ih => exact ih
theorem BaseN.mem {M : List Vo} {n : Nat} {x y : Vo} {t : Int} (h : BaseN M n x y t) (hx : ∃ id, vfind M id = some x) : ∃ id, vfind M id = some y := by
  induction h with
  | z h => exact hx
  | s _ hz _ ih => exact ih ⟨_, hz⟩
theorem BaseN.bnd {M : List Vo} {n : Nat} {x y : Vo} {t : Int} (h : BaseN M n x y t) (hx : ∃ id, vfind M id = some x) (hf : ∀ id x, vfind M id = some x → 0 ≤ x.from_ ∧ x.from_ ≤ 4294967296) : 0 ≤ t ∧ t ≤ n * 4294967296 := by
  induction h with
  | z h => omega
  | s _ hz _ ih =>
    obtain ⟨id, hx⟩ := hx
    have := hf id _ hx
    have := ih ⟨_, hz⟩
    omega
section
variable {w0 w : World} {L : List HP} {K : Value → WP} {b m pb o fb : Nat} {last most cap : Int} {F : List Fr} {M : List Vo} {pl : PL} {c0 c1 : Value} {cs ss : List Value} {pv sv : Value} {ps l : List Int} {A : HP}
/-- How deep an object is, read off the world. -/
def depAt (v : Value) (w : World) : Nat := match v with
  | .pointer (some p) => match w.cell? ⟨p.block, 6, none⟩ with | some (.int _ n) => n.toNat | _ => 0
  | _ => 0
theorem depAt_eq {x : Vo} {id : Int} (hn : Nv M) (hx : vfind M id = some x) (d : D w0 (sat (M.map vob) :: L) w) : depAt (.pointer (some ⟨x.blk, 0, none⟩)) w = x.depth.toNat := by
  have d := vone_out hn hx d
  have h : w.cell? ⟨x.blk, 6, none⟩ = some (.int .i64 x.depth) := (cell_of d.get 6).trans rfl
  unfold depAt
  simp only [h]
theorem base_ok {N : Nat} {x y : Vo} {t : Int} (hN : N ≤ 1000) (hn : Nv M) (hb : BaseN M N x y t) (hx : ∃ id, vfind M id = some x) (hf : ∀ id x, vfind M id = some x → 0 ≤ x.from_ ∧ x.from_ ≤ 4294967296)
    (hd : ∀ id z z', vfind M id = some z → z.sl = true → vfind M z.parent = some z' → 0 ≤ z'.depth ∧ z'.depth < z.depth)
    (d : D w0 (cel b 60 [.pointer (some ⟨pb, 0, none⟩), .map (some m), .int .i64 most, .int .i64 last] :: Pl pb cap F :: Mp m (vmap M) M.length :: sat (M.map vob) :: L) w)
    (k : ∀ w', D w0 (cel b 60 [.pointer (some ⟨pb, 0, none⟩), .map (some m), .int .i64 most, .int .i64 last] :: Pl pb cap F :: Mp m (vmap M) M.length :: sat (M.map vob) :: L) w' → K (.tuple #[.pointer (some ⟨y.blk, 0, none⟩), .int .i64 t]) w') :
    Cl pg 46 #[.pointer (some ⟨b, 0, none⟩), .pointer (some ⟨x.blk, 0, none⟩)] K w := by
  refine V.vmo_Set_base_ok ?_
  unfold V.vmo_Set_base
  refine ⟨fun vs w' => ∃ (n : Nat) (z : Vo) (u s : Int), vs = [.int .i64 s, .pointer (some ⟨z.blk, 0, none⟩)] ∧ n ≤ N ∧ BaseN M n z y u ∧ (∃ id, vfind M id = some z) ∧ s + u = t ∧ (0 ≤ s ∧ s ≤ (N - n : Nat) * 4294967296) ∧ D w0 (cel b 60 [.pointer (some ⟨pb, 0, none⟩), .map (some m), .int .i64 most, .int .i64 last] :: Pl pb cap F :: Mp m (vmap M) M.length :: sat (M.map vob) :: L) w',
    fun vs w => match vs with | [_, v] => depAt v w | _ => 0, ⟨N, x, t, 0, rfl, by omega, hb, hx, by omega, by omega, d⟩, ?_⟩
  clear d hb hx
  rintro _ w ⟨n, z, u, s, rfl, hnN, hb, ⟨id, hz⟩, hsu, hsb, d⟩ _
  simp only [UN]
  rw [depAt_eq hn hz (D.sel [3] d)]
  have d1 := vone_out hn hz (D.sel [3] d)
  have hv : vcell z = [.int .i64 z.size, .int .i64 z.parent, fmv z, z.cv, .bool z.sl, .int .i64 z.from_, .int .i64 z.depth, .bool z.dr] := rfl
  rw [hv] at d1
  have back : ∀ w', D w0 (cel z.blk 65 [.int .i64 z.size, .int .i64 z.parent, fmv z, z.cv, .bool z.sl, .int .i64 z.from_, .int .i64 z.depth, .bool z.dr] :: Rw 3 1 z.cv z.ch.length (z.ch.flatMap nc) :: fmp z :: sat ((rmV id M).map vob) :: cel b 60 [.pointer (some ⟨pb, 0, none⟩), .map (some m), .int .i64 most, .int .i64 last] :: Pl pb cap F :: Mp m (vmap M) M.length :: L) w' →
      D w0 (cel b 60 [.pointer (some ⟨pb, 0, none⟩), .map (some m), .int .i64 most, .int .i64 last] :: Pl pb cap F :: Mp m (vmap M) M.length :: sat (M.map vob) :: L) w' := fun w' d' => D.sel [1, 2, 3, 0] (vone_back hn hz (by rw [hv]; exact d'))
  clear d
  have d := d1
  clear d1
  cases hb with
  | z hsl =>
    rw [hsl] at d back
    repeat (first | (simp +decide only [SEM]) | (apply ldm d; (focus ((repeat (first | exact .h _ | refine .t _ _ ?_)); done)); (focus rfl)))
    have e : s = t := by omega
    rw [e]
    exact k w (back w d)
  | @s n _ _ z' u' hsl hz' hk =>
    rw [hsl] at d back
    have hfz := hf id z hz
    have hdz := hd id z z' hz hsl hz'
    have hub := hk.bnd ⟨_, hz'⟩ hf
    repeat (first | refine drw d fun w d => ?_ | (simp +decide only [SEM]) | (apply ldm d; (focus ((repeat (first | exact .h _ | refine .t _ _ ?_)); done)); (focus rfl)) | refine qt d ?_ | refine qe_nil ?_ | (apply qlm; (focus ((repeat (first | exact .h _ | refine .t _ _ ?_)); done)); (focus rfl)))
    refine lkm1_ok Try.underlying58 Try.underlying3 (z := .pointer none) (by kernel_rfl) d (.t _ _ (.t _ _ (.t _ _ (.t _ _ (.t _ _ (.t _ _ (.h _))))))) ?_
    rw [vmap_some hz', w64 (by omega) (by omega)]
    have d := back w d
    refine ⟨⟨n, z', u', s + z.from_, rfl, by omega, hk, ⟨_, hz'⟩, by omega, by omega, d⟩, ?_⟩
    rw [depAt_eq hn hz' (D.sel [3] d)]
    omega
/-- A range of an object: where it lies. -/
theorem reach_ok {id a n : Int} (hn : Nv M) (hsz : ∀ x ∈ M, 0 ≤ x.size ∧ x.size ≤ 4294967296) (hf : ∀ id x, vfind M id = some x → 0 ≤ x.from_ ∧ x.from_ ≤ 4294967296)
    (hd : ∀ id z z', vfind M id = some z → z.sl = true → vfind M z.parent = some z' → 0 ≤ z'.depth ∧ z'.depth < z.depth)
    (d : D w0 (cel b 60 [.pointer (some ⟨pb, 0, none⟩), .map (some m), .int .i64 most, .int .i64 last] :: Pl pb cap F :: Mp m (vmap M) M.length :: sat (M.map vob) :: L) w)
    (hbs : ∀ x, live M id = some x → ∃ N y t, N ≤ 1000 ∧ BaseN M N x y t)
    (k0 : (∀ x, live M id = some x → ¬ (0 ≤ a ∧ 0 ≤ n ∧ a ≤ x.size ∧ n ≤ x.size - a)) → ∀ e w', e ≠ 0 → D w0 (cel b 60 [.pointer (some ⟨pb, 0, none⟩), .map (some m), .int .i64 most, .int .i64 last] :: Pl pb cap F :: Mp m (vmap M) M.length :: sat (M.map vob) :: L) w' → K (.tuple #[.pointer none, .int .i64 0, .int .i64 e]) w')
    (k1 : ∀ x N y t, live M id = some x → (0 ≤ a ∧ 0 ≤ n ∧ a ≤ x.size ∧ n ≤ x.size - a) → N ≤ 1000 → BaseN M N x y t → ∀ w', D w0 (cel b 60 [.pointer (some ⟨pb, 0, none⟩), .map (some m), .int .i64 most, .int .i64 last] :: Pl pb cap F :: Mp m (vmap M) M.length :: sat (M.map vob) :: L) w' → K (.tuple #[.pointer (some ⟨y.blk, 0, none⟩), .int .i64 (t + a), .int .i64 0]) w') :
    Cl pg 28 #[.pointer (some ⟨b, 0, none⟩), .int .i64 id, .int .i64 a, .int .i64 n] K w := by
  refine V.vmo_Set_reach_ok ?_
  unfold V.vmo_Set_reach
  refine fn20 (fun _ _ => rfl) (vfind_ok hn d (fun h w d => ?_) fun x hx w d => ?_)
  · repeat (simp +decide only [SEM])
    exact k0 (fun x hx => by rw [h] at hx; cases hx) _ w (by decide) d
  · have hxl := live_some hx
    have hs := hsz x (vfind_id hxl.1).2
    repeat (simp +decide only [SEM])
    have d1 := vone_out hn hxl.1 (D.sel [3] d)
    simp only [vcell] at d1
    refine ldm d1 (.h _) (v := .int .i64 x.size) rfl ?_
    refine fn30 (fun _ _ => rfl) (Within_ok (by omega) ?_)
    by_cases hw : 0 ≤ a ∧ 0 ≤ n ∧ a ≤ x.size ∧ n ≤ x.size - a
    · rw [decide_eq_true hw]
      repeat (simp +decide only [SEM])
      obtain ⟨N, y, t, hN, hb⟩ := hbs x hx
      have ht := hb.bnd ⟨_, hxl.1⟩ hf
      refine fn20 (fun _ _ => rfl) (base_ok hN hn hb ⟨_, hxl.1⟩ hf hd d fun w d => ?_)
      repeat (simp +decide only [SEM])
      rw [w64 (by omega) (by omega)]
      exact k1 x N y t hx hw hN hb w d
    · rw [decide_eq_false hw]
      repeat (simp +decide only [SEM])
      exact k0 (fun y hy h => by rw [hx] at hy; obtain rfl := Option.some.inj hy; exact hw h) _ w (by decide) d
end
end Go.Proofs.Ytlcbfahjejgjlaa

set_option maxRecDepth 100000
set_option maxHeartbeats 8000000
namespace Go.Proofs.Ytlcbfahjejgjlaa
open Go Go.Jac
/-- What is written into an object's pages. -/
structure PutR (pl : PL) (a : Nat) (l : List Int) (F F' : List Fr) : Prop where
  len : F'.length = F.length
  us : ∀ f, (fr F' f).users = (fr F f).users
  oth : ∀ f, ¬ ((fr F f).users = 1 ∧ cnt pl f = 1) → (fr F' f).data = (fr F f).data
  byt : ∀ i, byt F' pl i = if a ≤ i ∧ i < a + l.length then (l[i - a]?).getD 0 else byt F pl i
  used : usedF F' = usedF F
theorem PutR.refl (pl : PL) (a : Nat) (F : List Fr) : PutR pl a [] F F := ⟨rfl, fun _ => rfl, fun _ _ => rfl, fun i => by simp; intro h1 h2; omega, rfl⟩
theorem cnt_two {pl : PL} (hk : Kn pl) {p q : Int} {f : Nat} (hp : look pl p = some f) (hq : look pl q = some f) (h : p ≠ q) : 2 ≤ cnt pl f := by
  have h1 := (del_parts hk hp).2 f
  rw [if_pos rfl] at h1
  have h2 : look (delP pl p) q = some f := by rw [look_del, if_neg (fun e => h e.symm)]; exact hq
  have := cnt_pos h2
  omega
theorem wr_in {g : Nat → Int} {a j : Nat} {l : List Int} (h1 : a ≤ j) (h2 : j < a + l.length) : wr g a l j = (l[j - a]?).getD 0 := if_pos ⟨h1, h2⟩
theorem wr_out {g : Nat → Int} {a j : Nat} {l : List Int} (h : ¬ (a ≤ j ∧ j < a + l.length)) : wr g a l j = g j := if_neg h
theorem put_step {pl : PL} {a j k : Nat} {l : List Int} {F G : List Fr} {f : Nat} (hk : Kn pl) (h : PutR pl a (l.take j) F G) (hj : j + k ≤ l.length) (hkp : k ≤ 64 - (a + j) % 64) (hl : look pl (((a + j) / 64 : Nat) : Int) = some f) (hu : (fr F f).users = 1) (hc : cnt pl f = 1) :
    PutR pl a (l.take (j + k)) F (G.set f ⟨wr (fr G f).data ((a + j) % 64) ((l.drop j).take k), 1⟩) := by
  have hfu : (fr G f).users = 1 := by rw [h.us]; exact hu
  have hf : f < G.length := fr_lt (by omega)
  have hlk : ((l.drop j).take k).length = k := by rw [List.length_take, List.length_drop]; omega
  have hlj : (l.take j).length = j := by rw [List.length_take]; omega
  have hljk : (l.take (j + k)).length = j + k := by rw [List.length_take]; omega
  refine ⟨by rw [List.length_set]; exact h.len, fun g => ?_, fun g hg => ?_, fun i => ?_, ?_⟩
  · rw [fr_set hf]
    split
    · rename_i e; subst e; simp only; omega
    · exact h.us g
  · rw [fr_set hf, if_neg (fun e => by rw [e] at hg; exact hg ⟨hu, hc⟩)]
    exact h.oth g hg
  · have hb := h.byt i
    rw [hlj] at hb
    rw [hljk]
    unfold byt at *
    cases hq : look pl ((i / 64 : Nat) : Int) with
    | none =>
      have hne : i / 64 ≠ (a + j) / 64 := fun e => by rw [e, hl] at hq; cases hq
      rw [hq] at hb
      simp only at hb ⊢
      by_cases h1 : a ≤ i ∧ i < a + (j + k)
      · have h2 : ¬ (a + j ≤ i) := fun h3 => hne (by omega)
        rw [if_pos h1]
        rw [if_pos ⟨h1.1, by omega⟩, List.getElem?_take_of_lt (by omega)] at hb
        rw [List.getElem?_take_of_lt (by omega)]
        exact hb
      · rw [if_neg h1]
    | some g =>
      rw [hq] at hb
      simp only at hb ⊢
      rw [fr_set hf]
      by_cases e : g = f
      · have hpg : ((i / 64 : Nat) : Int) = (((a + j) / 64 : Nat) : Int) := Classical.byContradiction fun hne => by
          rw [e] at hq
          have := cnt_two hk hq hl hne
          omega
        have hpn : i / 64 = (a + j) / 64 := by omega
        rw [if_pos e]
        simp only
        by_cases h1 : a + j ≤ i ∧ i < a + j + k
        · rw [wr_in (by omega) (by rw [hlk]; omega), if_pos ⟨by omega, by omega⟩, List.getElem?_take_of_lt (by omega), List.getElem?_take_of_lt (by omega), List.getElem?_drop]
          congr 2
          omega
        · rw [wr_out (by rw [hlk]; omega), ← e, hb]
          by_cases h2 : a ≤ i ∧ i < a + j
          · rw [if_pos h2, if_pos ⟨h2.1, by omega⟩, List.getElem?_take_of_lt (by omega), List.getElem?_take_of_lt (by omega)]
          · rw [if_neg h2, if_neg (by omega)]
      · rw [if_neg e, hb]
        have hne : i / 64 ≠ (a + j) / 64 := fun e2 => e (by rw [e2, hl] at hq; exact (Option.some.inj hq).symm)
        by_cases h1 : a ≤ i ∧ i < a + j
        · rw [if_pos h1, if_pos ⟨h1.1, by omega⟩, List.getElem?_take_of_lt (by omega), List.getElem?_take_of_lt (by omega)]
        · rw [if_neg h1, if_neg (fun h2 => by omega)]
  · have hs := usedF_set hf (⟨wr (fr G f).data ((a + j) % 64) ((l.drop j).take k), 1⟩ : Fr)
    have e1 : us0 G[f] = false := by rw [us0_fr hf]; exact decide_eq_false (by omega)
    have e2 : us0 (⟨wr (fr G f).data ((a + j) % 64) ((l.drop j).take k), 1⟩ : Fr) = false := rfl
    rw [e1, e2] at hs
    have := h.used
    simp only [Bool.false_eq_true, if_false] at hs
    omega
section
variable {w0 w : World} {L : List HP} {K : Value → WP} {b pb o fb : Nat} {cap : Int} {F : List Fr} {pl : PL} {c0 c1 : Value} {cs ss : List Value} {sv : Value} {l : List Int} {A : HP}
/-- The rest of a row of bytes, its beginning. -/
def dropV (i : Nat) : Value → Value
  | .slice p n c => .slice (if c = i then p else p.map (·.add (i * 1))) (n - i) (c - i)
  | v => v
def takeV (i : Nat) : Value → Value
  | .slice p _ c => .slice (if c = 0 then p else p.map (·.add (0 * 1))) (i - 0) (c - 0)
  | v => v
theorem SeesB.dropV (h : SeesB w sv l) {i : Nat} (hi : i ≤ l.length) : SeesB w (dropV i sv) (l.drop i) := by
  obtain ⟨p, c, rfl, hc, hx⟩ := h
  refine ⟨_, _, by rw [List.length_drop]; rfl, by rw [List.length_drop]; omega, fun hne => ?_⟩
  have hlt : i < l.length := by
    rcases Nat.lt_or_ge i l.length with h | h
    · exact h
    · rw [List.drop_eq_nil_of_le h] at hne; exact absurd rfl hne
  obtain ⟨a, rfl, hxx⟩ := hx (by rintro rfl; simp at hlt)
  refine ⟨a.add i, by rw [if_neg (by omega)]; simp, fun j x hj => ?_⟩
  rw [List.getElem?_drop] at hj
  rw [Addr.add_add]
  exact hxx _ x hj
theorem SeesB.takeV (h : SeesB w sv l) {i : Nat} (hi : i ≤ l.length) : SeesB w (takeV i sv) (l.take i) := by
  obtain ⟨p, c, rfl, hc, hx⟩ := h
  refine ⟨_, _, by rw [List.length_take, Nat.min_eq_left hi]; rfl, by rw [List.length_take]; omega, fun hne => ?_⟩
  obtain ⟨a, rfl, hxx⟩ := hx (by rintro rfl; simp at hne)
  refine ⟨a, ?_, fun j x hj => ?_⟩
  · split
    · rfl
    · simp [Addr.add_zero]
  · rw [List.getElem?_take] at hj
    split at hj
    · exact hxx j x hj
    · cases hj
theorem SeesB.slc_drop (h : SeesB w sv l) {k : IntKind} {i : Nat} (hi : i ≤ l.length) (kk : K (Proofs.Ytlcbfahjejgjlaa.dropV i sv) w) : SlC 1 sv (some (.int k i)) none K w := by
  obtain ⟨p, c, rfl, hc, hx⟩ := h
  exact slc_ok i l.length rfl ⟨_, rfl, hi⟩ rfl kk
theorem SeesB.slc_take (h : SeesB w sv l) {k : IntKind} {i : Nat} (hi : i ≤ l.length) (kk : K (Proofs.Ytlcbfahjejgjlaa.takeV i sv) w) : SlC 1 sv none (some (.int k i)) K w := by
  obtain ⟨p, c, rfl, hc, hx⟩ := h
  exact slc_ok 0 i ⟨_, rfl, by omega⟩ rfl rfl kk
theorem put_ok {a : Nat} (ha : a ≤ 100000000000000) (hk : Kn pl) (hpg : ∀ q ∈ pgL a l.length, ∃ f, look pl q = some f ∧ (fr F f).users = 1 ∧ cnt pl f = 1) (hA : SeesBA w0 A sv l) (hl : l.length ≤ 100000)
    (d : D w0 (cel o 65 (c0 :: c1 :: .map (some fb) :: cs) :: Mp fb (fgM pl) pl.length :: Pl pb cap F :: cel b 60 (.pointer (some ⟨pb, 0, none⟩) :: ss) :: A :: L) w)
    (k : ∀ F' w', PutR pl a l F F' → D w0 (cel o 65 (c0 :: c1 :: .map (some fb) :: cs) :: Mp fb (fgM pl) pl.length :: Pl pb cap F' :: cel b 60 (.pointer (some ⟨pb, 0, none⟩) :: ss) :: A :: L) w' → K (.tuple #[]) w') :
    Cl pg 31 #[.pointer (some ⟨b, 0, none⟩), .pointer (some ⟨o, 0, none⟩), .int .i64 a, sv] K w := by
  refine V.vmo_Set_put_ok ?_
  unfold V.vmo_Set_put
  refine ⟨fun vs w' => ∃ (j : Nat) (v : Value) (G : List Fr), vs = [.int .i64 ((a + j : Nat) : Int), v] ∧ j ≤ l.length ∧ SeesBA w0 A v (l.drop j) ∧ PutR pl a (l.take j) F G ∧
    D w0 (cel o 65 (c0 :: c1 :: .map (some fb) :: cs) :: Mp fb (fgM pl) pl.length :: Pl pb cap G :: cel b 60 (.pointer (some ⟨pb, 0, none⟩) :: ss) :: A :: L) w', fun vs _ => match vs with | [.int _ i, _] => a + l.length - i.toNat | _ => 0, ⟨0, sv, F, rfl, by omega, hA, PutR.refl _ _ _, d⟩, ?_⟩
  clear d
  rintro _ w ⟨j, v, G, rfl, hj, hs, hp, d⟩ _
  simp only [UN]
  have hdl : (l.drop j).length = l.length - j := List.length_drop
  refine (hs _ _ (D.sel [4] d)).len ?_
  rw [hdl]
  repeat (first | refine drw d fun w d => ?_ | (simp +decide only [SEM]) | (apply ldm d; (focus ((repeat (first | exact .h _ | refine .t _ _ ?_)); done)); (focus rfl)) | (apply lam d; (focus ((repeat (first | exact .h _ | refine .t _ _ ?_)); done)); (focus rfl)) | (((repeat (refine bld_c rfl rfl (by simp) ?_; simp only [List.set_cons_zero, List.set_cons_succ])); refine bld_n ?_)) | (refine d_new _ d fun bn w d => ?_) | refine bsl1 (by first | rfl | (simp only [cells_agg, cells_int, cells_bool, cells_ptr, cells_sl, cells_map, cells_fn, List.drop_succ_cons, List.drop_zero, List.take_succ_cons, List.take_zero, Nat.zero_add, Nat.reduceAdd, Int.toNat_natCast, Int.toNat_zero]; rfl)) rfl d (by decide) (by decide) fun bn w d => ?_ | refine bsl2 rfl rfl d fun bn w d => ?_ | refine bsl0 d fun bn w d => ?_ | refine qt d ?_ | refine qe_nil ?_ | refine qe_fa ?_ | refine qe_len ?_ | (apply qlm; (focus ((repeat (first | exact .h _ | refine .t _ _ ?_)); done)); (focus rfl)) | (apply qam; (focus ((repeat (first | exact .h _ | refine .t _ _ ?_)); done)); (focus rfl)) | refine qe _ (fun w d => by ((repeat (refine bld_c rfl rfl (by simp) ?_; simp only [List.set_cons_zero, List.set_cons_succ])); refine bld_n ?_); exact ⟨rfl, rfl⟩) ?_ | refine qe_ext rfl ?_ | refine qe_op (fun _ _ => BinI_add) ?_ | refine qe_op (fun _ _ => BinI_sub) ?_ | refine qe_op (fun _ _ => BinI_mul) ?_ | refine qe_op (fun _ _ => BinI_eql) ?_ | refine qe_op (fun _ _ => BinI_neq) ?_ | refine qe_op (fun _ _ => BinI_lss) ?_ | refine qe_op (fun _ _ => BinI_leq) ?_ | refine qe_op (fun _ _ => BinI_gtr) ?_ | refine qe_op (fun _ _ => BinI_geq) ?_ | refine qe_op (fun _ _ => Un_not _) ?_ | refine qia (by first | omega | (simp; omega)) ?_ | refine qia0 (by first | omega | (simp; omega)) ?_ | (focus (apply qln; (focus ((repeat (first | exact .h _ | refine .t _ _ ?_)); done)); (focus exact fun _ => rfl); rotate_left; (focus (first | omega | (simp; done) | (simp; omega))))) | (focus (apply ql1; (focus ((repeat (first | exact .h _ | refine .t _ _ ?_)); done)); (focus exact fun _ => rfl); (focus rfl); rotate_left; (focus (first | omega | (simp; done) | (simp; omega))))) | (focus (apply ql0; (focus ((repeat (first | exact .h _ | refine .t _ _ ?_)); done)); (focus exact fun _ => rfl); (focus rfl); rotate_left; (focus (first | omega | (simp; done) | (simp; omega))))) | (apply swm d; (focus ((repeat (first | exact .h _ | apply Rp.t)); done)); (focus rfl); (focus rfl); (focus exact ones rfl); intro w d; simp only [SPL] at d) | (apply stm d; (focus ((repeat (first | exact .h _ | apply Rp.t)); done)); (focus rfl); (focus simp); (focus exact ones rfl); intro w d; simp only [SPL] at d) | (apply lpm d; (focus ((repeat (first | exact .h _ | refine .t _ _ ?_)); done)); (focus (simp only [SEM]; rfl)); (focus rfl)) | (focus (apply rw_fld d; (focus ((repeat (first | exact .h _ | refine .t _ _ ?_)); done)); (focus exact fun _ => rfl); (focus rfl); rotate_left; (focus (first | omega | (simp; done) | (simp; omega))))) | (focus (apply rw_el1 d; (focus ((repeat (first | exact .h _ | refine .t _ _ ?_)); done)); (focus exact fun _ => rfl); (focus rfl); rotate_left; (focus (first | omega | (simp; done) | (simp; omega))))) | (focus (apply rw_elN d; (focus ((repeat (first | exact .h _ | refine .t _ _ ?_)); done)); (focus exact fun _ => rfl); rotate_left; (focus (first | omega | (simp; done) | (simp; omega))))) | (focus (apply rw_fld0 d; (focus ((repeat (first | exact .h _ | refine .t _ _ ?_)); done)); (focus exact fun _ => rfl); (focus rfl); rotate_left; (focus (first | omega | (simp; done) | (simp; omega))))) | (focus (apply rw_el10 d; (focus ((repeat (first | exact .h _ | refine .t _ _ ?_)); done)); (focus exact fun _ => rfl); (focus rfl); rotate_left; (focus (first | omega | (simp; done) | (simp; omega))))) | (focus (apply rw_elN0 d; (focus ((repeat (first | exact .h _ | refine .t _ _ ?_)); done)); (focus exact fun _ => rfl); rotate_left; (focus (first | omega | (simp; done) | (simp; omega))))) | refine ch d ?_ | refine ch (D.tail d) ?_ | refine ch (D.tail (D.tail d)) ?_ | refine ch (D.tail (D.tail (D.tail d))) ?_ | refine qe _ (fun w d => max2_ok ⟨rfl, rfl⟩) ?_ | refine qe _ (fun w d => min2_ok ⟨rfl, rfl⟩) ?_ | refine max2_ok ?_ | refine min2_ok ?_ | refine bsl3 rfl rfl rfl d fun bn w d => ?_ | refine qe_op (fun _ _ => BinI_quo rfl) ?_ | refine qe_op (fun _ _ => BinI_rem rfl) ?_ | refine qe_op (fun _ _ => BinI_or) ?_ | refine qe_op (fun _ _ => BinI_and) ?_ | refine qe_op (fun _ _ => BinI_andNot) ?_ | refine qe_op (fun _ _ => BinI_shl) ?_ | refine qe_op (fun _ _ => BinI_shr) ?_)
  refine ⟨fun hlt => ?_, fun hge => ?_⟩
  · have hlt' : j < l.length := by omega
    have e1 : ((a + j : Nat) : Int).tmod 64 = (((a + j) % 64 : Nat) : Int) := by rw [Int.tmod_eq_emod_of_nonneg (by omega)]; omega
    rw [e1]
    refine (hs _ _ (D.sel [4] d)).len ?_
    rw [hdl, BinI_sub, w64 (by omega) (by omega)]
    refine min2_ok ?_
    obtain ⟨k, hke⟩ : ∃ k : Nat, (k : Int) = min ((l.length - j : Nat) : Int) (64 - (((a + j) % 64 : Nat) : Int)) := ⟨min (l.length - j) (64 - (a + j) % 64), by omega⟩
    rw [← hke]
    have hk1 : 0 < k := by omega
    have hk2 : j + k ≤ l.length := by omega
    have hk3 : k ≤ 64 - (a + j) % 64 := by omega
    have e2 : IntKind.i64.wrap (((a + j : Nat) : Int).tdiv 64) = (((a + j) / 64 : Nat) : Int) := by
      rw [Int.tdiv_eq_ediv_of_nonneg (by omega), w64 (by omega) (by omega)]; omega
    have hin : (((a + j) / 64 : Nat) : Int) ∈ pgL a l.length := by
      rw [pgL_mem]
      refine ⟨(a + j) / 64 - a / 64, ?_, by omega⟩
      unfold pgN
      rw [if_neg (by omega)]
      omega
    obtain ⟨f, hf1, hf2, hf3⟩ := hpg _ hin
    have hfg : fgM pl (((a + j) / 64 : Nat) : Int) = some (.int .i64 (f : Int)) := by unfold fgM; rw [hf1]; rfl
    refine drw d fun w d => ?_
    refine qt d ?_
    repeat (first | refine drw d fun w d => ?_ | (simp +decide only [SEM]) | (apply ldm d; (focus ((repeat (first | exact .h _ | refine .t _ _ ?_)); done)); (focus rfl)) | (apply lam d; (focus ((repeat (first | exact .h _ | refine .t _ _ ?_)); done)); (focus rfl)) | (((repeat (refine bld_c rfl rfl (by simp) ?_; simp only [List.set_cons_zero, List.set_cons_succ])); refine bld_n ?_)) | (refine d_new _ d fun bn w d => ?_) | refine bsl1 (by first | rfl | (simp only [cells_agg, cells_int, cells_bool, cells_ptr, cells_sl, cells_map, cells_fn, List.drop_succ_cons, List.drop_zero, List.take_succ_cons, List.take_zero, Nat.zero_add, Nat.reduceAdd, Int.toNat_natCast, Int.toNat_zero]; rfl)) rfl d (by decide) (by decide) fun bn w d => ?_ | refine bsl2 rfl rfl d fun bn w d => ?_ | refine bsl0 d fun bn w d => ?_ | refine qt d ?_ | refine qe_nil ?_ | refine qe_fa ?_ | refine qe_len ?_ | (apply qlm; (focus ((repeat (first | exact .h _ | refine .t _ _ ?_)); done)); (focus rfl)) | (apply qam; (focus ((repeat (first | exact .h _ | refine .t _ _ ?_)); done)); (focus rfl)) | refine qe _ (fun w d => by ((repeat (refine bld_c rfl rfl (by simp) ?_; simp only [List.set_cons_zero, List.set_cons_succ])); refine bld_n ?_); exact ⟨rfl, rfl⟩) ?_ | refine qe_ext rfl ?_ | refine qe_op (fun _ _ => BinI_add) ?_ | refine qe_op (fun _ _ => BinI_sub) ?_ | refine qe_op (fun _ _ => BinI_mul) ?_ | refine qe_op (fun _ _ => BinI_eql) ?_ | refine qe_op (fun _ _ => BinI_neq) ?_ | refine qe_op (fun _ _ => BinI_lss) ?_ | refine qe_op (fun _ _ => BinI_leq) ?_ | refine qe_op (fun _ _ => BinI_gtr) ?_ | refine qe_op (fun _ _ => BinI_geq) ?_ | refine qe_op (fun _ _ => Un_not _) ?_ | refine qia (by first | omega | (simp; omega)) ?_ | refine qia0 (by first | omega | (simp; omega)) ?_ | (focus (apply qln; (focus ((repeat (first | exact .h _ | refine .t _ _ ?_)); done)); (focus exact fun _ => rfl); rotate_left; (focus (first | omega | (simp; done) | (simp; omega))))) | (focus (apply ql1; (focus ((repeat (first | exact .h _ | refine .t _ _ ?_)); done)); (focus exact fun _ => rfl); (focus rfl); rotate_left; (focus (first | omega | (simp; done) | (simp; omega))))) | (focus (apply ql0; (focus ((repeat (first | exact .h _ | refine .t _ _ ?_)); done)); (focus exact fun _ => rfl); (focus rfl); rotate_left; (focus (first | omega | (simp; done) | (simp; omega))))) | (apply swm d; (focus ((repeat (first | exact .h _ | apply Rp.t)); done)); (focus rfl); (focus rfl); (focus exact ones rfl); intro w d; simp only [SPL] at d) | (apply stm d; (focus ((repeat (first | exact .h _ | apply Rp.t)); done)); (focus rfl); (focus simp); (focus exact ones rfl); intro w d; simp only [SPL] at d) | (apply lpm d; (focus ((repeat (first | exact .h _ | refine .t _ _ ?_)); done)); (focus (simp only [SEM]; rfl)); (focus rfl)) | (focus (apply rw_fld d; (focus ((repeat (first | exact .h _ | refine .t _ _ ?_)); done)); (focus exact fun _ => rfl); (focus rfl); rotate_left; (focus (first | omega | (simp; done) | (simp; omega))))) | (focus (apply rw_el1 d; (focus ((repeat (first | exact .h _ | refine .t _ _ ?_)); done)); (focus exact fun _ => rfl); (focus rfl); rotate_left; (focus (first | omega | (simp; done) | (simp; omega))))) | (focus (apply rw_elN d; (focus ((repeat (first | exact .h _ | refine .t _ _ ?_)); done)); (focus exact fun _ => rfl); rotate_left; (focus (first | omega | (simp; done) | (simp; omega))))) | (focus (apply rw_fld0 d; (focus ((repeat (first | exact .h _ | refine .t _ _ ?_)); done)); (focus exact fun _ => rfl); (focus rfl); rotate_left; (focus (first | omega | (simp; done) | (simp; omega))))) | (focus (apply rw_el10 d; (focus ((repeat (first | exact .h _ | refine .t _ _ ?_)); done)); (focus exact fun _ => rfl); (focus rfl); rotate_left; (focus (first | omega | (simp; done) | (simp; omega))))) | (focus (apply rw_elN0 d; (focus ((repeat (first | exact .h _ | refine .t _ _ ?_)); done)); (focus exact fun _ => rfl); rotate_left; (focus (first | omega | (simp; done) | (simp; omega))))) | refine ch d ?_ | refine ch (D.tail d) ?_ | refine ch (D.tail (D.tail d)) ?_ | refine ch (D.tail (D.tail (D.tail d))) ?_ | refine qe _ (fun w d => max2_ok ⟨rfl, rfl⟩) ?_ | refine qe _ (fun w d => min2_ok ⟨rfl, rfl⟩) ?_ | refine max2_ok ?_ | refine min2_ok ?_ | refine bsl3 rfl rfl rfl d fun bn w d => ?_ | refine qe_op (fun _ _ => BinI_quo rfl) ?_ | refine qe_op (fun _ _ => BinI_rem rfl) ?_ | refine qe_op (fun _ _ => BinI_or) ?_ | refine qe_op (fun _ _ => BinI_and) ?_ | refine qe_op (fun _ _ => BinI_andNot) ?_ | refine qe_op (fun _ _ => BinI_shl) ?_ | refine qe_op (fun _ _ => BinI_shr) ?_)
    rw [e2]
    refine qe _ (fun w d => lkm1_ok Try.underlying63 Try.underlying3 (z := .int .i64 0) (by kernel_rfl) d (.t _ _ (.h _)) ⟨rfl, rfl⟩) ?_
    rw [hfg]
    simp only [Option.getD_some]
    refine qe (takeV k v) (fun w d => (hs _ _ (D.sel [4] d)).slc_take (by rw [hdl]; omega) ⟨rfl, rfl⟩) ?_
    have hgu := hp.us f
    have hgf : f < G.length := fr_lt (by omega)
    have hlk : ((l.drop j).take k).length = k := by rw [List.length_take]; omega
    refine fn40 (fun _ _ => rfl) (Write_ok (l := (l.drop j).take k) hgf (by rw [← fr_get hgf]; omega) (by omega) (by omega) (D.sel [2] d) (fun w' d' => (hs _ _ (D.sel [4] d')).takeV (by rw [hdl]; omega)) fun w d => ?_)
    rw [← fr_get hgf] at d
    have hst := put_step hk hp hk2 hk3 hf1 hf2 hf3
    repeat (first | refine drw d fun w d => ?_ | (simp +decide only [SEM]) | (apply ldm d; (focus ((repeat (first | exact .h _ | refine .t _ _ ?_)); done)); (focus rfl)) | (apply lam d; (focus ((repeat (first | exact .h _ | refine .t _ _ ?_)); done)); (focus rfl)) | (((repeat (refine bld_c rfl rfl (by simp) ?_; simp only [List.set_cons_zero, List.set_cons_succ])); refine bld_n ?_)) | (refine d_new _ d fun bn w d => ?_) | refine bsl1 (by first | rfl | (simp only [cells_agg, cells_int, cells_bool, cells_ptr, cells_sl, cells_map, cells_fn, List.drop_succ_cons, List.drop_zero, List.take_succ_cons, List.take_zero, Nat.zero_add, Nat.reduceAdd, Int.toNat_natCast, Int.toNat_zero]; rfl)) rfl d (by decide) (by decide) fun bn w d => ?_ | refine bsl2 rfl rfl d fun bn w d => ?_ | refine bsl0 d fun bn w d => ?_ | refine qt d ?_ | refine qe_nil ?_ | refine qe_fa ?_ | refine qe_len ?_ | (apply qlm; (focus ((repeat (first | exact .h _ | refine .t _ _ ?_)); done)); (focus rfl)) | (apply qam; (focus ((repeat (first | exact .h _ | refine .t _ _ ?_)); done)); (focus rfl)) | refine qe _ (fun w d => by ((repeat (refine bld_c rfl rfl (by simp) ?_; simp only [List.set_cons_zero, List.set_cons_succ])); refine bld_n ?_); exact ⟨rfl, rfl⟩) ?_ | refine qe_ext rfl ?_ | refine qe_op (fun _ _ => BinI_add) ?_ | refine qe_op (fun _ _ => BinI_sub) ?_ | refine qe_op (fun _ _ => BinI_mul) ?_ | refine qe_op (fun _ _ => BinI_eql) ?_ | refine qe_op (fun _ _ => BinI_neq) ?_ | refine qe_op (fun _ _ => BinI_lss) ?_ | refine qe_op (fun _ _ => BinI_leq) ?_ | refine qe_op (fun _ _ => BinI_gtr) ?_ | refine qe_op (fun _ _ => BinI_geq) ?_ | refine qe_op (fun _ _ => Un_not _) ?_ | refine qia (by first | omega | (simp; omega)) ?_ | refine qia0 (by first | omega | (simp; omega)) ?_ | (focus (apply qln; (focus ((repeat (first | exact .h _ | refine .t _ _ ?_)); done)); (focus exact fun _ => rfl); rotate_left; (focus (first | omega | (simp; done) | (simp; omega))))) | (focus (apply ql1; (focus ((repeat (first | exact .h _ | refine .t _ _ ?_)); done)); (focus exact fun _ => rfl); (focus rfl); rotate_left; (focus (first | omega | (simp; done) | (simp; omega))))) | (focus (apply ql0; (focus ((repeat (first | exact .h _ | refine .t _ _ ?_)); done)); (focus exact fun _ => rfl); (focus rfl); rotate_left; (focus (first | omega | (simp; done) | (simp; omega))))) | (apply swm d; (focus ((repeat (first | exact .h _ | apply Rp.t)); done)); (focus rfl); (focus rfl); (focus exact ones rfl); intro w d; simp only [SPL] at d) | (apply stm d; (focus ((repeat (first | exact .h _ | apply Rp.t)); done)); (focus rfl); (focus simp); (focus exact ones rfl); intro w d; simp only [SPL] at d) | (apply lpm d; (focus ((repeat (first | exact .h _ | refine .t _ _ ?_)); done)); (focus (simp only [SEM]; rfl)); (focus rfl)) | (focus (apply rw_fld d; (focus ((repeat (first | exact .h _ | refine .t _ _ ?_)); done)); (focus exact fun _ => rfl); (focus rfl); rotate_left; (focus (first | omega | (simp; done) | (simp; omega))))) | (focus (apply rw_el1 d; (focus ((repeat (first | exact .h _ | refine .t _ _ ?_)); done)); (focus exact fun _ => rfl); (focus rfl); rotate_left; (focus (first | omega | (simp; done) | (simp; omega))))) | (focus (apply rw_elN d; (focus ((repeat (first | exact .h _ | refine .t _ _ ?_)); done)); (focus exact fun _ => rfl); rotate_left; (focus (first | omega | (simp; done) | (simp; omega))))) | (focus (apply rw_fld0 d; (focus ((repeat (first | exact .h _ | refine .t _ _ ?_)); done)); (focus exact fun _ => rfl); (focus rfl); rotate_left; (focus (first | omega | (simp; done) | (simp; omega))))) | (focus (apply rw_el10 d; (focus ((repeat (first | exact .h _ | refine .t _ _ ?_)); done)); (focus exact fun _ => rfl); (focus rfl); rotate_left; (focus (first | omega | (simp; done) | (simp; omega))))) | (focus (apply rw_elN0 d; (focus ((repeat (first | exact .h _ | refine .t _ _ ?_)); done)); (focus exact fun _ => rfl); rotate_left; (focus (first | omega | (simp; done) | (simp; omega))))) | refine ch d ?_ | refine ch (D.tail d) ?_ | refine ch (D.tail (D.tail d)) ?_ | refine ch (D.tail (D.tail (D.tail d))) ?_ | refine qe _ (fun w d => max2_ok ⟨rfl, rfl⟩) ?_ | refine qe _ (fun w d => min2_ok ⟨rfl, rfl⟩) ?_ | refine max2_ok ?_ | refine min2_ok ?_ | refine bsl3 rfl rfl rfl d fun bn w d => ?_ | refine qe_op (fun _ _ => BinI_quo rfl) ?_ | refine qe_op (fun _ _ => BinI_rem rfl) ?_ | refine qe_op (fun _ _ => BinI_or) ?_ | refine qe_op (fun _ _ => BinI_and) ?_ | refine qe_op (fun _ _ => BinI_andNot) ?_ | refine qe_op (fun _ _ => BinI_shl) ?_ | refine qe_op (fun _ _ => BinI_shr) ?_)
    refine (hs _ _ (D.sel [4] d)).slc_drop (by rw [hdl]; omega) ?_
    rw [show IntKind.i64.wrap (((a + j : Nat) : Int) + (k : Int)) = ((a + (j + k) : Nat) : Int) from by rw [w64 (by omega) (by omega)]; omega]
    refine ⟨⟨j + k, dropV k v, _, rfl, hk2, fun L w d => ?_, hst, D.sel [1, 2, 0] d⟩, by omega⟩
    have := (hs L w d).dropV (i := k) (by rw [hdl]; omega)
    rwa [List.drop_drop] at this
  · have e : j = l.length := by omega
    subst e
    rw [List.take_length] at hp
    exact k G w hp d
end
end Go.Proofs.Ytlcbfahjejgjlaa

set_option maxRecDepth 100000
set_option maxHeartbeats 8000000
namespace Go.Proofs.Ytlcbfahjejgjlaa
open Go Go.Jac
/-- How often objects use a frame. -/
def tot (M : List Vo) (f : Nat) : Nat := (M.map fun x => cnt x.pl f).sum
theorem tot_cons (x : Vo) (M : List Vo) (f : Nat) : tot (x :: M) f = cnt x.pl f + tot M f := by simp [tot]
theorem tot_rm {M : List Vo} {id : Int} {x : Vo} (hn : Nv M) (h : vfind M id = some x) (f : Nat) : tot M f = cnt x.pl f + tot (rmV id M) f := by
  have := ((rmv_perm hn h).map fun x => cnt x.pl f).sum_nat
  rw [← tot_cons]
  exact this
/-- What always holds of a set of objects. -/
structure VW (cap : Int) (F : List Fr) (M : List Vo) : Prop where
  nd : Nv M
  ok : Pok cap F
  sz : ∀ x ∈ M, 0 ≤ x.size ∧ x.size ≤ 4294967296
  frm : ∀ id x, vfind M id = some x → 0 ≤ x.from_ ∧ x.from_ ≤ 4294967296
  dep : ∀ id z z', vfind M id = some z → z.sl = true → vfind M z.parent = some z' → 0 ≤ z'.depth ∧ z'.depth < z.depth
  base : ∀ id x, vfind M id = some x → ∃ N y t, N ≤ 1000 ∧ BaseN M N x y t
  hasf : ∀ id x, vfind M id = some x → (x.sl = false → x.hasf = true) ∧ (x.hasf = false → x.pl = [])
  kn : ∀ id x, vfind M id = some x → Kn x.pl
  ui : ∀ f, (fr F f).users = (tot M f : Int)
theorem VW.uiR {cap : Int} {F : List Fr} {M : List Vo} {id : Int} {x : Vo} (h : VW cap F M) (hx : vfind M id = some x) : UI (tot (rmV id M)) F x.pl := fun f => by
  rw [h.ui f, tot_rm h.nd hx f]; omega
/-- What was written: into the pages of y. -/
structure WR (cap : Int) (M : List Vo) (yid : Int) (y : Vo) (F : List Fr) (a : Nat) (l : List Int) (F' : List Fr) (pl' : PL) : Prop where
  ui : UI (tot (rmV yid M)) F' pl'
  kn : Kn pl'
  ok : Pok cap F'
  dat : ∀ f, 0 < tot (rmV yid M) f → (fr F' f).data = (fr F f).data
  byt : ∀ i, byt F' pl' i = if a ≤ i ∧ i < a + l.length then (l[i - a]?).getD 0 else byt F y.pl i
  used : usedF F' ≤ usedF F + needF (F, y.pl) (pgL a l.length)
  pgs : ∀ q, look pl' q ≠ none ↔ q ∈ pgL a l.length ∨ look y.pl q ≠ none
  new : (∀ q ∈ pgL a l.length, look y.pl q = none) → usedF F' = usedF F + (pgL a l.length).length
section
variable {w0 w : World} {L : List HP} {K : Value → WP} {b : Nat} {last most cap : Int} {F : List Fr} {M : List Vo} {sv : Value} {l : List Int} {A : HP}
theorem vcell_f {y : Vo} (h : y.hasf = true) : vcell y = .int .i64 y.size :: .int .i64 y.parent :: .map (some y.fb) :: [y.cv, .bool y.sl, .int .i64 y.from_, .int .i64 y.depth, .bool y.dr] := by
  simp [vcell, fmv, h]
theorem fmp_f {y : Vo} (h : y.hasf = true) : fmp y = Mp y.fb (fgM y.pl) y.pl.length := by unfold fmp; rw [h]; rfl
/-- Why a write is refused. -/
def wno (cap : Int) (F : List Fr) (M : List Vo) (id a : Int) (n : Nat) : Prop :=
  live M id = none ∨ 4096 < n ∨ (∃ x, live M id = some x ∧ ¬ (0 ≤ a ∧ a ≤ x.size ∧ n ≤ x.size - a)) ∨ (∃ x N y t, live M id = some x ∧ BaseN M N x y t ∧ cap < usedF F + needF (F, y.pl) (pgL (t + a) n))
theorem VWrite_ok {id a : Int} (h : VW cap F M) (hA : SeesBA w0 A sv l) (d : D w0 (A :: Vs b last most cap F M :: L) w)
    (k0 : ∀ e w', e ≠ 0 → wno cap F M id a l.length → D w0 (A :: Vs b last most cap F M :: L) w' → K (.int .i64 e) w')
    (k1 : ∀ x N y yid t F' pl' w', live M id = some x → BaseN M N x y t → vfind M yid = some y → l.length ≤ 4096 → (0 ≤ a ∧ a ≤ x.size ∧ l.length ≤ x.size - a) → (usedF F : Int) + needF (F, y.pl) (pgL (t + a) l.length) ≤ cap →
      WR cap M yid y F (t + a).toNat l F' pl' → 0 ≤ t → D w0 (A :: Vs b last most cap F' ({ y with pl := pl' } :: rmV yid M) :: L) w' → K (.int .i64 0) w') :
    Cl pg 11 #[.pointer (some ⟨b, 0, none⟩), .int .i64 id, .int .i64 a, sv] K w := by
  refine V.vmo_Set_Write_ok ?_
  unfold V.vmo_Set_Write
  obtain ⟨m, pb, d⟩ := Vs.out (D.sel [1] d)
  have hbs : ∀ x, live M id = some x → ∃ N y t, N ≤ 1000 ∧ BaseN M N x y t := fun x hx => h.base id x (live_some hx).1
  refine fn20 (fun _ _ => rfl) (vfind_ok h.nd d (fun hno w d => ?_) fun x hx w d => ?_)
  · repeat (simp +decide only [SEM])
    refine (hA _ _ (D.sel [4] d)).len ?_
    refine fn40 (fun _ _ => rfl) (reach_ok h.nd h.sz h.frm h.dep d hbs (fun _ e w he d => ?_) fun x N y t hx _ _ _ w d => by rw [hno] at hx; cases hx)
    repeat (simp +decide only [SEM])
    refine ⟨fun _ => k0 e w he (.inl hno) (D.swap (Vs.mk d)), fun h0 => absurd h0 he⟩
  repeat (simp +decide only [SEM])
  refine (hA _ _ (D.sel [4] d)).len ?_
  repeat (simp +decide only [SEM])
  refine ⟨fun hb => k0 _ w (by decide) (.inr (.inl (by omega))) (D.swap (Vs.mk d)), fun hb => ?_⟩
  refine (hA _ _ (D.sel [4] d)).len ?_
  refine fn40 (fun _ _ => rfl) (reach_ok h.nd h.sz h.frm h.dep d hbs (fun hno e w he d => ?_) fun x' N y t hx' hr hN hby w d => ?_)
  · repeat (simp +decide only [SEM])
    refine ⟨fun _ => k0 e w he (.inr (.inr (.inl ⟨x, hx, fun hh => hno x hx ⟨hh.1, by omega, hh.2⟩⟩))) (D.swap (Vs.mk d)), fun h0 => absurd h0 he⟩
  · rw [hx] at hx'
    obtain rfl := Option.some.inj hx'
    have hxl := live_some hx
    have hsx := h.sz x (vfind_id hxl.1).2
    have htb := hby.bnd ⟨_, hxl.1⟩ h.frm
    obtain ⟨yid, hy⟩ := hby.mem ⟨_, hxl.1⟩
    have hyf := (h.hasf yid y hy).1 hby.sl
    repeat (simp +decide only [SEM])
    refine (hA _ _ (D.sel [4] d)).len ?_
    refine fn20 (fun _ _ => rfl) (touched_ok (by omega) (by omega) d fun pv w d => ?_)
    have d := vone_out h.nd hy (D.sel [4] d)
    rw [vcell_f hyf, fmp_f hyf] at d
    have hpn : pgN (t + a) l.length ≤ 4097 := by
      unfold pgN
      split <;> omega
    refine fn30 (fun _ _ => rfl) (commit_ok (R := tot (rmV yid M)) (ps := pgL (t + a) l.length) (pgL_nd _ _) (by rw [pgL_len]; omega) (h.uiR hy) (h.kn _ _ hy) h.ok (D.sel [0, 2, 6, 5, 4] d) (fun hno w d => ?_) fun hroom w d => ?_)
    · repeat (simp +decide only [SEM])
      have d := vone_back h.nd hy (by rw [vcell_f hyf, fmp_f hyf]; exact D.sel [0, 5, 1, 6] d)
      exact k0 _ w (by decide) (.inr (.inr (.inr ⟨x, N, y, t, hx, hby, hno⟩))) (D.swap (Vs.mk (m := m) (pb := pb) (D.sel [2, 1, 4, 0] d |> fun d => (D.sel [4] d).tail)))
    · obtain ⟨f1, f2, f3, f4, -, -, f7⟩ := cm_fold (R := tot (rmV yid M)) (cap := cap) (pgL (t + a) l.length) (s := (F, y.pl)) (pgL_nd _ _) (h.uiR hy) (h.kn _ _ hy) h.ok hroom
      generalize (pgL (t + a) l.length).foldl cm1 (F, y.pl) = S at *
      obtain ⟨F1, pl1⟩ := S
      simp only at f1 f2 f3 f4 f7 d
      have f1u := f1.ui
      have f1k := f1.kn
      simp only at f1u f1k
      repeat (simp +decide only [SEM])
      obtain ⟨an, han⟩ := Int.eq_ofNat_of_zero_le (a := t + a) (by omega)
      have hA' : ((an : Nat) : Int) = t + a := han.symm
      rw [han] at f2 f3 f4 f7 hroom d ⊢
      refine fn40 (fun _ _ => rfl) (put_ok (a := an) (l := l) (by omega) f1k (fun q hq => ?_) hA (by omega) (D.sel [0, 1, 2, 3, 8] d) fun F' w hp d => ?_)
      · obtain ⟨f, g1, g2⟩ := f4 q hq
        have := f1u f
        have := cnt_pos g1
        exact ⟨f, g1, g2, by omega⟩
      · skip
        have hwr : WR cap M yid y F (t + a).toNat l F' pl1 := by
          have e : (t + a).toNat = an := by omega
          rw [e]
          refine ⟨fun f => (hp.us f).trans (f1u f), f1k, ⟨f1.ok.mo, by rw [hp.len]; exact f1.ok.len, fun z hz => ?_⟩, fun f hf => ?_, fun i => ?_, by rw [hp.used]; exact f3, f2, fun hall => by rw [hp.used]; exact f7 hall⟩
          · obtain ⟨i, hi, rfl⟩ := List.getElem_of_mem hz
            have hi2 : i < F1.length := by rw [← hp.len]; exact hi
            have := f1.ok.us _ (List.getElem_mem hi2)
            have h2 := hp.us i
            rw [fr_get hi, fr_get hi2] at h2
            rw [h2]; exact this
          · rw [hp.oth f (fun hh => by have := f1u f; omega)]
            exact f1.dat f hf
          · rw [hp.byt i]
            have := f1.byt i
            simp only at this
            rw [this]
        have hv2 : vcell { y with pl := pl1 } = .int .i64 y.size :: .int .i64 y.parent :: .map (some y.fb) :: [y.cv, .bool y.sl, .int .i64 y.from_, .int .i64 y.depth, .bool y.dr] := vcell_f (y := { y with pl := pl1 }) hyf
        have hf2 : fmp { y with pl := pl1 } = Mp y.fb (fgM pl1) pl1.length := fmp_f (y := { y with pl := pl1 }) hyf
        have d : D w0 (cel y.blk 65 (vcell { y with pl := pl1 }) :: Rw 3 1 y.cv y.ch.length (y.ch.flatMap nc) :: fmp { y with pl := pl1 } :: sat ((rmV yid M).map vob) :: Pl pb cap F' :: cel b 60 [.pointer (some ⟨pb, 0, none⟩), .map (some m), .int .i64 most, .int .i64 last] :: A :: Rw 3 1 pv (pgL (an : Int) l.length).length ((pgL (an : Int) l.length).flatMap nc) :: Mp m (vmap M) M.length :: L) w := by
          rw [hv2, hf2]
          exact D.sel [0, 6, 1, 7] d
        have d := (D.sel [4] (vone_in (y := { y with pl := pl1 }) (R := rmV yid M) d)).tail
        have e5 := vmap_set (y := { y with pl := pl1 }) hy (vfind_id hy).1 rfl
        have e6 := setv_len (y := { y with pl := pl1 }) h.nd hy
        refine k1 x N y yid t F' pl1 w hx hby hy (by omega) (by omega) (by rw [han]; exact hroom) hwr htb.1 (D.swap (Vs.mk (m := m) (pb := pb) ?_))
        rw [e5, e6]
        exact D.sel [2, 1, 4, 0] d
end
end Go.Proofs.Ytlcbfahjejgjlaa

set_option maxRecDepth 100000
set_option maxHeartbeats 8000000
namespace Go.Proofs.Ytlcbfahjejgjlaa
open Go Go.Jac
theorem sub_app (g : Nat → Int) (a j k : Nat) : sub g a (j + k) = sub g a j ++ sub g (a + j) k := by
  unfold sub
  rw [List.range_add, List.map_append, List.map_map]
  congr 1
  apply List.map_congr_left
  intro i _
  simp only [Function.comp, Nat.add_assoc]
theorem sub_congr {g h : Nat → Int} {a b k : Nat} (e : ∀ i, i < k → g (a + i) = h (b + i)) : sub g a k = sub h b k := by
  unfold sub
  apply List.map_congr_left
  intro i hi
  exact e i (by simpa using hi)
section
variable {w0 w : World} {L : List HP} {K : Value → WP} {b m pb : Nat} {last most cap : Int} {F : List Fr} {M : List Vo} {sv : Value} {l : List Int} {A : HP}
theorem mks0 {elem bytes n : Nat} {z : Value} {kl kc : IntKind} (hb : bytes * n ≤ 281474976710656) (hn : n ≤ 4294967296) (d : D w0 L w) (k : ∀ sv w', D w0 (Rw elem 1 sv 0 [] :: L) w' → K sv w') : MkSC elem 1 bytes #[z] (.int kl 0) (.int kc n) K w := by
  refine ⟨kl, kc, 0, n, rfl, rfl, by omega, by omega, (by have h := Int.ofNat_le.2 hb; rw [Int.natCast_mul] at h; exact h), by omega, k _ _ ⟨?_, d.2.trans (Kp.alloc _ _)⟩⟩
  have e : madeCells #[z] ((n : Int).toNat * 1) = ([] ++ List.replicate n z).toArray := by
    apply Array.ext'
    rw [toList_madeCells_one]
    simp
  rw [hw_alloc, e]
  exact Rw.mk (cs := []) (junk := List.replicate n z) (cap := n) (Sat.new (hw_none w) d.1) (by simp) (by simp) (by simp)
theorem zeros_bI (k : Nat) : List.replicate k (Value.int .u8 0) = (sub (fun _ => 0) 0 k).flatMap bI := by
  rw [bI_map]
  unfold sub
  rw [List.map_map]
  apply List.ext_getElem
  · simp
  · intro i h1 h2; simp
theorem VRead_ok {id a n : Int} (h : VW cap F M) (d : D w0 (Vs b last most cap F M :: L) w)
    (k0 : ∀ e w', e ≠ 0 → (live M id = none ∨ n < 0 ∨ 4096 < n ∨ ∃ x, live M id = some x ∧ ¬ (0 ≤ a ∧ 0 ≤ n ∧ a ≤ x.size ∧ n ≤ x.size - a)) → D w0 (Vs b last most cap F M :: L) w' → K (.tuple #[.slice none 0 0, .int .i64 e]) w')
    (k1 : ∀ x N y yid t sv w', live M id = some x → BaseN M N x y t → vfind M yid = some y → (0 ≤ n ∧ n ≤ 4096) → (0 ≤ a ∧ a ≤ x.size ∧ n ≤ x.size - a) → 0 ≤ t →
      D w0 (Rw 5 1 sv n.toNat ((sub (byt F y.pl) (t + a).toNat n.toNat).flatMap bI) :: Vs b last most cap F M :: L) w' → K (.tuple #[sv, .int .i64 0]) w') :
    Cl pg 12 #[.pointer (some ⟨b, 0, none⟩), .int .i64 id, .int .i64 a, .int .i64 n] K w := by
  refine V.vmo_Set_Read_ok ?_
  unfold V.vmo_Set_Read
  obtain ⟨m, pb, d⟩ := Vs.out d
  have hbs : ∀ x, live M id = some x → ∃ N y t, N ≤ 1000 ∧ BaseN M N x y t := fun x hx => h.base id x (live_some hx).1
  refine fn20 (fun _ _ => rfl) (vfind_ok h.nd d (fun hno w d => ?_) fun x hx w d => ?_)
  · repeat (simp +decide only [SEM])
    refine fn40 (fun _ _ => rfl) (reach_ok h.nd h.sz h.frm h.dep d hbs (fun _ e w he d => ?_) fun x N y t hx _ _ _ w d => by rw [hno] at hx; cases hx)
    repeat (simp +decide only [SEM])
    refine ⟨fun _ => k0 e w he (.inl hno) (Vs.mk d), fun h0 => absurd h0 he⟩
  repeat (simp +decide only [SEM])
  refine ⟨fun hn0 => ?_, fun hn0 => k0 _ w (by decide) (.inr (.inl (by omega))) (Vs.mk d)⟩
  refine ⟨fun hb => k0 _ w (by decide) (.inr (.inr (.inl (by omega)))) (Vs.mk d), fun hb => ?_⟩
  refine fn40 (fun _ _ => rfl) (reach_ok h.nd h.sz h.frm h.dep d hbs (fun hno e w he d => ?_) fun x' N y t hx' hr hN hby w d => ?_)
  · repeat (simp +decide only [SEM])
    refine ⟨fun _ => k0 e w he (.inr (.inr (.inr ⟨x, hx, hno x hx⟩))) (Vs.mk d), fun h0 => absurd h0 he⟩
  · rw [hx] at hx'
    obtain rfl := Option.some.inj hx'
    have hxl := live_some hx
    have hsx := h.sz x (vfind_id hxl.1).2
    have htb := hby.bnd ⟨_, hxl.1⟩ h.frm
    obtain ⟨yid, hy⟩ := hby.mem ⟨_, hxl.1⟩
    have hyf := (h.hasf yid y hy).1 hby.sl
    obtain ⟨an, han⟩ := Int.eq_ofNat_of_zero_le (a := t + a) (by omega)
    obtain ⟨nn, rfl⟩ := Int.eq_ofNat_of_zero_le (a := n) (by omega)
    have fin := k1 x N y yid t
    clear k0 k1
    rw [han] at fin ⊢
    simp only [Int.toNat_natCast] at fin
    repeat (simp +decide only [SEM])
    refine mks0 (by omega) (by omega) d fun ov w d => ?_
    have d := vone_out h.nd hy (D.sel [4] d)
    rw [vcell_f hyf, fmp_f hyf] at d
    refine ⟨fun vs w' => ∃ (j : Nat) (ov : Value), vs = [ov] ∧ j ≤ nn ∧ D w0 (Rw 5 1 ov j ((sub (byt F y.pl) an j).flatMap bI) :: cel y.blk 65 (.int .i64 y.size :: .int .i64 y.parent :: .map (some y.fb) :: [y.cv, .bool y.sl, .int .i64 y.from_, .int .i64 y.depth, .bool y.dr]) :: Mp y.fb (fgM y.pl) y.pl.length :: Pl pb cap F :: cel b 60 [.pointer (some ⟨pb, 0, none⟩), .map (some m), .int .i64 most, .int .i64 last] :: Rw 3 1 y.cv y.ch.length (y.ch.flatMap nc) :: sat ((rmV yid M).map vob) :: Mp m (vmap M) M.length :: L) w',
      fun vs _ => match vs with | [.slice _ k _] => nn - k | _ => 0, ⟨0, ov, rfl, by omega, D.sel [4, 0, 2, 6, 5, 1, 3] d⟩, ?_⟩
    clear d
    rintro _ w ⟨j, ov, rfl, hj, d⟩ _
    simp only [UN]
    obtain ⟨oq, oc, rfl, -⟩ := Rw.shape d.1
    repeat (simp +decide only [SEM])
    refine ⟨fun hlt => ?_, fun hge => ?_⟩
    · have hlt' : j < nn := by omega
      have e0 : IntKind.i64.wrap ((an : Int) + j) = ((an + j : Nat) : Int) := by rw [w64 (by omega) (by omega)]; simp
      have e1 : ((an + j : Nat) : Int).tmod 64 = (((an + j) % 64 : Nat) : Int) := by rw [Int.tmod_eq_emod_of_nonneg (by omega)]; omega
      have e2 : IntKind.i64.wrap (((an + j : Nat) : Int).tdiv 64) = (((an + j) / 64 : Nat) : Int) := by
        rw [Int.tdiv_eq_ediv_of_nonneg (by omega), w64 (by omega) (by omega)]; omega
      have e3 : IntKind.i64.wrap ((nn : Int) - j) = ((nn - j : Nat) : Int) := by rw [w64 (by omega) (by omega)]; omega
      have e4 : IntKind.i64.wrap (64 - (((an + j) % 64 : Nat) : Int)) = ((64 - (an + j) % 64 : Nat) : Int) := by rw [w64 (by omega) (by omega)]; omega
      rw [e0, e1, e3, e4]
      refine min2_ok ?_
      obtain ⟨k, hke⟩ : ∃ k : Nat, (k : Int) = min ((nn - j : Nat) : Int) ((64 - (an + j) % 64 : Nat) : Int) := ⟨min (nn - j) (64 - (an + j) % 64), by omega⟩
      rw [← hke]
      have hk1 : 0 < k := by omega
      have hk2 : j + k ≤ nn := by omega
      have hk3 : k ≤ 64 - (an + j) % 64 := by omega
      refine mks1 (by omega) (by omega) d fun zv w d => ?_
      repeat (first | (simp +decide only [SEM]) | (apply ldm d; (focus ((repeat (first | exact .h _ | refine .t _ _ ?_)); done)); (focus rfl)))
      rw [e0, e2]
      have hnext : ∀ sv' w', D w0 (Rw 5 1 sv' (j + k) ((sub (byt F y.pl) an j).flatMap bI ++ (sub (byt F y.pl) (an + j) k).flatMap bI) :: cel y.blk 65 (.int .i64 y.size :: .int .i64 y.parent :: .map (some y.fb) :: [y.cv, .bool y.sl, .int .i64 y.from_, .int .i64 y.depth, .bool y.dr]) :: Mp y.fb (fgM y.pl) y.pl.length :: Pl pb cap F :: cel b 60 [.pointer (some ⟨pb, 0, none⟩), .map (some m), .int .i64 most, .int .i64 last] :: Rw 3 1 y.cv y.ch.length (y.ch.flatMap nc) :: sat ((rmV yid M).map vob) :: Mp m (vmap M) M.length :: L) w' →
          ∃ q' c', sv' = .slice q' (j + k) c' ∧ (∃ (j' : Nat) (ov : Value), [sv'] = [ov] ∧ j' ≤ nn ∧ D w0 (Rw 5 1 ov j' ((sub (byt F y.pl) an j').flatMap bI) :: cel y.blk 65 (.int .i64 y.size :: .int .i64 y.parent :: .map (some y.fb) :: [y.cv, .bool y.sl, .int .i64 y.from_, .int .i64 y.depth, .bool y.dr]) :: Mp y.fb (fgM y.pl) y.pl.length :: Pl pb cap F :: cel b 60 [.pointer (some ⟨pb, 0, none⟩), .map (some m), .int .i64 most, .int .i64 last] :: Rw 3 1 y.cv y.ch.length (y.ch.flatMap nc) :: sat ((rmV yid M).map vob) :: Mp m (vmap M) M.length :: L) w') := fun sv' w' d' => by
        obtain ⟨q', c', e, -⟩ := Rw.shape d'.1
        refine ⟨q', c', e, j + k, sv', rfl, hk2, ?_⟩
        rw [sub_app, List.flatMap_append]
        exact d'
      refine lkm_ok Try.underlying63 Try.underlying3 (z := .int .i64 0) (by kernel_rfl) d (.t _ _ (.t _ _ (.t _ _ (.h _)))) ?_
      cases hlk : look y.pl (((an + j) / 64 : Nat) : Int) with
      | none =>
        have e : fgM y.pl (((an + j) / 64 : Nat) : Int) = none := by unfold fgM; rw [hlk]; rfl
        rw [e]
        simp only [Option.getD_none, Option.isSome_none]
        repeat (simp +decide only [SEM])
        have hpc : sub (fun _ => 0) 0 k = sub (byt F y.pl) (an + j) k := sub_congr fun i hi => by
          unfold byt
          rw [show (an + j + i) / 64 = (an + j) / 64 by omega, hlk]
        rw [zeros_bI, hpc] at d
        have d := D.sel [1] d
        refine d_app (m := k) d (src_rw (D.sel [1] d) (bI_one _)) rfl hk1 (by omega) (by omega) (bI_one _) fun sv' w d => ?_
        obtain ⟨q', c', rfl, h1⟩ := hnext sv' w (D.sel [1] d).tail
        exact ⟨h1, by show nn - (j + k) < nn - j; omega⟩
      | some f =>
        have e : fgM y.pl (((an + j) / 64 : Nat) : Int) = some (.int .i64 (f : Int)) := by unfold fgM; rw [hlk]; rfl
        have hlv := (h.uiR hy).live hlk
        have hf := fr_lt (F := F) (i := f) (by omega)
        rw [e]
        simp only [Option.getD_some, Option.isSome_some]
        repeat (first | (simp +decide only [SEM]) | (apply ldm d; (focus ((repeat (first | exact .h _ | refine .t _ _ ?_)); done)); (focus rfl)))
        refine fn40 (fun _ _ => rfl) (Read_ok hf (by rw [← fr_get hf]; omega) (by omega) (D.sel [4] d) fun rv w d => ?_)
        rw [← fr_get hf] at d
        repeat (simp +decide only [SEM])
        have hpc : sub (fr F f).data ((an + j) % 64) k = sub (byt F y.pl) (an + j) k := sub_congr fun i hi => by
          unfold byt
          rw [show (an + j + i) / 64 = (an + j) / 64 by omega, hlk, show (an + j + i) % 64 = (an + j) % 64 + i by omega]
        rw [hpc] at d
        have d := D.sel [3] d
        refine d_app (m := k) d (src_rw (D.sel [1] d) (bI_one _)) rfl hk1 (by omega) (by omega) (bI_one _) fun sv' w d => ?_
        obtain ⟨q', c', rfl, h1⟩ := hnext sv' w (D.sel [1, 3, 0, 4, 5, 2] d).tail.tail
        exact ⟨h1, by show nn - (j + k) < nn - j; omega⟩
    · obtain rfl : j = nn := by omega
      refine fin _ w hx hby hy (by omega) (by omega) htb.1 (D.swap (Vs.mk (m := m) (pb := pb) ?_))
      have d1 := vone_back h.nd hy (L := _) (by rw [vcell_f hyf, fmp_f hyf]; exact D.sel [1, 5, 2, 6] d)
      exact D.sel [3, 2, 4, 0, 1] d1
end
end Go.Proofs.Ytlcbfahjejgjlaa

set_option maxRecDepth 100000
set_option maxHeartbeats 8000000
namespace Go.Proofs.Ytlcbfahjejgjlaa
open Go Go.Jac
theorem VW.nil {cap : Int} (hc : 0 ≤ cap ∧ cap ≤ 65536) : VW cap [] [] :=
  ⟨List.nodup_nil, ⟨hc, by simpa using hc.1, by simp⟩, by simp, by simp [vfind], by simp [vfind], by simp [vfind], by simp [vfind], by simp [vfind], fun f => by simp [fr, tot]⟩
/-- Objects of the same shape. -/
theorem BaseN.map {M M' : List Vo} {f : Vo → Vo} (hM : ∀ id, vfind M' id = (vfind M id).map f) (hs : ∀ x, (f x).sl = x.sl) (hp : ∀ x, (f x).parent = x.parent) (hf : ∀ x, (f x).from_ = x.from_) {n : Nat} {x y : Vo} {t : Int} (h : BaseN M n x y t) : BaseN M' n (f x) (f y) t := by
  induction h with
  | z h => exact .z (by rw [hs, h])
  | @s n x y z t h hz _ ih =>
    rw [← hf x]
    exact .s (by rw [hs, h]) (z := f z) (by rw [hM, hp, hz]; rfl) ih
theorem VW.map {cap : Int} {F F' : List Fr} {M M' : List Vo} {f : Vo → Vo} (h : VW cap F M) (hM : ∀ id, vfind M' id = (vfind M id).map f) (hn : Nv M') (hs : ∀ x, (f x).sl = x.sl) (hp : ∀ x, (f x).parent = x.parent) (hf : ∀ x, (f x).from_ = x.from_) (hz : ∀ id x, vfind M id = some x → 0 ≤ (f x).size ∧ (f x).size ≤ 4294967296) (hd : ∀ x, (f x).depth = x.depth) (hh : ∀ x, (f x).hasf = x.hasf)
    (ok : Pok cap F') (kn : ∀ id x, vfind M id = some x → Kn (f x).pl) (hpl : ∀ id x, vfind M id = some x → x.hasf = false → x.pl = [] → (f x).pl = []) (ui : ∀ i, (fr F' i).users = (tot M' i : Int)) : VW cap F' M' where
  nd := hn
  ok := ok
  sz x hx := by
    have h1 := vfind_mem hn hx
    rw [hM] at h1
    obtain ⟨z, hz1, rfl⟩ := Option.map_eq_some_iff.1 h1
    exact hz _ z hz1
  frm id x hx := by
    rw [hM] at hx
    obtain ⟨z, hz1, rfl⟩ := Option.map_eq_some_iff.1 hx
    rw [hf]
    exact h.frm id z hz1
  dep id z z' h1 h2 h3 := by
    rw [hM] at h1
    obtain ⟨y, hy, rfl⟩ := Option.map_eq_some_iff.1 h1
    rw [hM, hp] at h3
    obtain ⟨y', hy', rfl⟩ := Option.map_eq_some_iff.1 h3
    rw [hd, hd]
    rw [hs] at h2
    exact h.dep id y y' hy h2 hy'
  base id x hx := by
    rw [hM] at hx
    obtain ⟨z, hz1, rfl⟩ := Option.map_eq_some_iff.1 hx
    obtain ⟨N, y, t, hN, hb⟩ := h.base id z hz1
    exact ⟨N, f y, t, hN, hb.map hM hs hp hf⟩
  hasf id x hx := by
    rw [hM] at hx
    obtain ⟨z, hz1, rfl⟩ := Option.map_eq_some_iff.1 hx
    rw [hs, hh]
    exact ⟨(h.hasf id z hz1).1, fun e => hpl id z hz1 e ((h.hasf id z hz1).2 e)⟩
  kn id x hx := by
    rw [hM] at hx
    obtain ⟨z, hz1, rfl⟩ := Option.map_eq_some_iff.1 hx
    exact kn id z hz1
  ui := ui
/-- Another table of pages. -/
def plV (id : Int) (pl : PL) (x : Vo) : Vo := if x.id = id then { x with pl := pl } else x
theorem plV_find {M : List Vo} {id : Int} {y : Vo} (hy : vfind M id = some y) (pl : PL) (a : Int) : vfind ({ y with pl := pl } :: rmV id M) a = (vfind M a).map (plV id pl) := by
  rw [vfind_upd (y := { y with pl := pl }) (vfind_id hy).1]
  split
  · rename_i e
    subst e
    rw [hy]
    simp [plV, (vfind_id hy).1]
  · rename_i e
    cases hz : vfind M a with
    | none => rfl
    | some z =>
      have := (vfind_id hz).1
      simp only [Option.map_some, plV]
      rw [if_neg (by rw [this]; exact e)]
theorem VW.pl {cap : Int} {F F' : List Fr} {M : List Vo} {id : Int} {y : Vo} {pl : PL} (h : VW cap F M) (hy : vfind M id = some y) (hf : y.hasf = true) (ok : Pok cap F') (kn : Kn pl) (ui : UI (tot (rmV id M)) F' pl) : VW cap F' ({ y with pl := pl } :: rmV id M) := by
  have key : ∀ x, ∀ {α : Type} (g : Vo → α), (∀ x : Vo, g { x with pl := pl } = g x) → g (plV id pl x) = g x := fun x α g hg => by
    unfold plV; split
    · exact hg x
    · rfl
  refine h.map (f := plV id pl) (plV_find hy pl) (h.nd.upd (x := y) (y := { y with pl := pl }) (vfind_id hy).1) (fun x => key x _ fun _ => rfl) (fun x => key x _ fun _ => rfl) (fun x => key x _ fun _ => rfl) (fun a x hx => by rw [key x (fun x => x.size) fun _ => rfl]; exact h.sz x (vfind_id hx).2) (fun x => key x _ fun _ => rfl) (fun x => key x _ fun _ => rfl) ok (fun a x hx => ?_) (fun a x hx e e2 => ?_) fun i => ?_
  · unfold plV; split
    · exact kn
    · exact h.kn a x hx
  · unfold plV; split
    · rename_i e3
      have ha := (vfind_id hx).1
      rw [show a = id from by rw [← ha, e3], hy] at hx
      obtain rfl := Option.some.inj hx
      rw [hf] at e; cases e
    · exact e2
  · rw [ui i, tot_cons]
    show _ = ((cnt pl i + tot (rmV id M) i : Nat) : Int)
    omega
theorem VW.new {cap : Int} {F : List Fr} {M : List Vo} {id size : Int} {fb c : Nat} (h : VW cap F M) (hno : vfind M id = none) (hs : 0 ≤ size ∧ size ≤ 4294967296) : VW cap F (newV id size fb c :: M) := by
  have hm : ∀ a z, vfind M a = some z → vfind (newV id size fb c :: M) a = some z := fun a z hz => by
    rw [vfind_cons, if_neg (fun e => ?_), hz]
    have e : id = a := e
    rw [← e, hno] at hz; cases hz
  have hc : ∀ a z, vfind (newV id size fb c :: M) a = some z → z = newV id size fb c ∨ vfind M a = some z := fun a z hz => by
    rw [vfind_cons] at hz
    split at hz
    · exact .inl (Option.some.inj hz).symm
    · exact .inr hz
  have hb : ∀ N x y t, BaseN M N x y t → BaseN (newV id size fb c :: M) N x y t := fun N x y t h => by
    induction h with
    | z h => exact .z h
    | s h hz _ ih => exact .s h (hm _ _ hz) ih
  refine ⟨?_, h.ok, fun x hx => ?_, fun a x hx => ?_, fun a z z' h1 h2 h3 => ?_, fun a x hx => ?_, fun a x hx => ?_, fun a x hx => ?_, fun f => ?_⟩
  · have hn := h.nd
    unfold Nv at hn ⊢
    rw [List.map_cons, List.nodup_cons]
    refine ⟨fun hmm => ?_, hn⟩
    obtain ⟨z, hz, e⟩ := List.mem_map.1 hmm
    have := vfind_mem h.nd hz
    have e : z.id = id := e
    rw [e, hno] at this; cases this
  · rcases List.mem_cons.1 hx with rfl | hx
    · exact hs
    · exact h.sz x hx
  · rcases hc a x hx with rfl | hx
    · exact ⟨Int.le_refl _, by show (0 : Int) ≤ _; decide⟩
    · exact h.frm a x hx
  · rcases hc a z h1 with rfl | h1
    · cases h2
    · obtain ⟨N, y, t, _, hbb⟩ := h.base a z h1
      cases hbb with
      | z h => rw [h] at h2; cases h2
      | s _ hz _ =>
        rw [hm _ _ hz] at h3
        obtain rfl := Option.some.inj h3
        exact h.dep a z _ h1 h2 hz
  · rcases hc a x hx with rfl | hx
    · exact ⟨0, _, 0, by omega, .z rfl⟩
    · obtain ⟨N, y, t, hN, hbb⟩ := h.base a x hx
      exact ⟨N, y, t, hN, hb _ _ _ _ hbb⟩
  · rcases hc a x hx with rfl | hx
    · exact ⟨fun _ => rfl, fun h => by cases h⟩
    · exact h.hasf a x hx
  · rcases hc a x hx with rfl | hx
    · exact List.nodup_nil
    · exact h.kn a x hx
  · rw [h.ui f, tot_cons]
    show _ = ((cnt [] f + tot M f : Nat) : Int)
    simp [cnt]
theorem BaseN.flat {M : List Vo} {n : Nat} {x y : Vo} {t : Int} (h : BaseN M n x y t) (hs : x.sl = false) : n = 0 ∧ y = x ∧ t = 0 := by
  cases h with
  | z _ => exact ⟨rfl, rfl, rfl⟩
  | s h _ _ => rw [hs] at h; cases h
theorem needF_le (s : List Fr × PL) (ps : List Int) : needF s ps ≤ ps.length := List.countP_le_length
section
variable {w0 w : World} {L : List HP} {K : Value → WP} {b : Nat} {cs : List Value}
theorem hw_freeze {w : World} {b o n : Nat} {cs : List Value} {t : TypeId} (g : hw w b = some (.cells cs.toArray t (0, 0))) : hw (w.freeze ⟨b, o, none⟩ (n + 1)) = (hw w).set b (.cells cs.toArray t (o, o + (n + 1))) := by
  funext i
  unfold World.freeze
  rw [if_neg (by omega)]
  simp only [hw, Hp.set, Array.getElem?_modify]
  by_cases e : b = i
  · subst e
    have g' : w.heap[b]? = some (.cells cs.toArray t (0, 0)) := g
    simp [g']
  · simp only [e, if_false]
    rw [if_neg fun h => e h.symm]
theorem mark_ok {n c : Nat} (d : D w0 (cel b 5 cs :: L) w) (k : ∀ w', D w0 (pts b (.cells cs.toArray 5 (cs.length, cs.length + 1)) :: L) w' → K (.slice (some ⟨b, 0, none⟩) n c) w') : Ex pg (convert 22 22 (.slice (some ⟨b, 0, none⟩) n c)) K w := by
  refine ⟨_, w.freeze ⟨b, cs.length, none⟩ 1, ?_, k _ ⟨?_, d.2.trans ⟨rfl, rfl, rfl, by simp [World.freeze], Nat.le_refl _⟩⟩⟩
  · have hsh : w.shape? b = some (5, cs.length) := by
      have g' : w.heap[b]? = some (.cells cs.toArray 5 (0, 0)) := d.get
      unfold World.shape?
      rw [g']
      simp
    simp [convert, run_underlying Try.underlying22, run_underlying Try.underlying5, markStringish, hsh]
  · rw [hw_freeze d.get]
    exact d.1.set
theorem seesB_mark {l : List Int} (hl : 0 < l.length) : SeesBA w0 (pts b (.cells (l.flatMap bI).toArray 5 (l.length, l.length + 1))) (.slice (some ⟨b, 0, none⟩) l.length l.length) l := fun L w d => by
  refine ⟨_, _, rfl, Nat.le_refl _, fun _ => ⟨_, rfl, fun j x hx => ?_⟩⟩
  have g : hw w b = some (.cells (l.flatMap bI).toArray 5 (l.length, l.length + 1)) := d.1.get
  rw [add_of, cell_of g, Nat.zero_add, bI_map]
  simp [hx]
theorem awake_ok (d : D w0 L w) (k : ∀ w', D w0 L w' → K (.bool true) w') : Cl pg 9 #[] K w := by
  refine V.jacinthlaw08_awake_ok ?_
  unfold V.jacinthlaw08_awake
  refine fn20 (fun _ _ => rfl) (VNew_ok (cap := 4) (n := 4) (by omega) (by omega) d fun b w d => ?_)
  repeat (simp +decide only [SEM])
  refine fn20 (fun _ _ => rfl) (VCreate_ok (n := 100) (by omega) (VW.nil (cap := 4) (by omega)).nd (by simp) (by omega) rfl rfl (by simp) d fun fb c w d => ?_)
  have hw1 : VW 4 [] (newV 1 128 fb c :: []) := (VW.nil (by omega)).new rfl (by omega)
  have d : D w0 (Vs b 1 4 4 [] [newV 1 128 fb c] :: L) w := d
  rw [show (0 : Int) + 1 = 1 from rfl]
  have hf : vfind [newV 1 128 fb c] 1 = some (newV 1 128 fb c) := rfl
  have hlv : live [newV 1 128 fb c] 1 = some (newV 1 128 fb c) := rfl
  repeat (simp +decide only [SEM])
  refine fn20 (fun _ _ => rfl) (VInfo_ok hw1.nd hf (fun h => by cases h) d fun w d => ?_)
  repeat (first | (simp +decide only [SEM]) | (refine d_new _ d fun bn w d => ?_) | (apply swm d; (focus ((repeat (first | exact .h _ | apply Rp.t)); done)); (focus rfl); (focus rfl); (focus exact ones rfl); intro w d; simp only [SPL] at d))
  refine fn40 (fun _ _ => rfl) (VRead_ok hw1 (D.sel [1] d) (fun e w he hno d => ?_) fun x N y yid t sv w hx hb hy h1 h2 h3 d => ?_)
  · exfalso
    rcases hno with h | h | h | ⟨x, hx, h⟩
    · rw [hlv] at h; cases h
    · omega
    · omega
    · rw [hlv] at hx
      obtain rfl := Option.some.inj hx
      exact h ⟨by omega, by omega, by show (0 : Int) ≤ 128; decide, by show (2 : Int) ≤ 128 - 0; decide⟩
  repeat (first | (simp +decide only [SEM]) | (apply ldm d; (focus ((repeat (first | exact .h _ | refine .t _ _ ?_)); done)); (focus rfl)))
  refine ⟨fun _ => len_rw (D.sel [0] d) ?_, fun h => absurd rfl h⟩
  repeat (first | (simp +decide only [SEM]) | refine bsl2 rfl rfl d fun bn w d => ?_)
  refine mark_ok d fun w d => ?_
  refine fn40 (fun _ _ => rfl) (VWrite_ok (l := [97, 98]) (b := b) hw1 (seesB_mark (l := [97, 98]) (by decide)) (D.sel [0, 2] d) (fun e w he hno d => ?_) fun x2 N2 y2 yid2 t2 F' pl' w hx2 hb2 hy2 h1 h2 h3 hwr h4 d => ?_)
  · exfalso
    rcases hno with h | h | ⟨x, hx, h⟩ | ⟨x, N, y, t, hx, hb, h⟩
    · rw [hlv] at h; cases h
    · exact absurd h (by decide)
    · rw [hlv] at hx
      obtain rfl := Option.some.inj hx
      exact h ⟨by omega, by show (0 : Int) ≤ 128; decide, by show (2 : Int) ≤ 128 - 0; decide⟩
    · rw [hlv] at hx
      obtain rfl := Option.some.inj hx
      obtain ⟨-, rfl, rfl⟩ := hb.flat rfl
      have := needF_le ([], (newV 1 128 fb c).pl) (pgL (0 + 0) ((2 : Nat) : Int))
      rw [show (pgL (0 + 0) ((2 : Nat) : Int)).length = 1 from rfl] at this
      have h : (4 : Int) < ((usedF [] : Nat) : Int) + ((needF ([], (newV 1 128 fb c).pl) (pgL (0 + 0) ((2 : Nat) : Int)) : Nat) : Int) := h
      rw [show usedF [] = 0 from rfl] at h
      omega
  repeat (simp +decide only [SEM])
  rw [hlv] at hx2
  obtain rfl := Option.some.inj hx2
  obtain ⟨-, rfl, rfl⟩ := hb2.flat rfl
  have hu : usedF F' = 1 := hwr.new fun q _ => rfl
  refine fn10 (fun _ _ => rfl) (VRoom_ok (F := F') (cap := 4) (by omega) (by rw [hu]; omega) (D.sel [1] d) fun w d => ?_)
  rw [hu]
  repeat (simp +decide only [SEM])
  exact k _ d.tail.tail.tail.tail
end
end Go.Proofs.Ytlcbfahjejgjlaa

set_option maxRecDepth 100000
set_option maxHeartbeats 8000000
namespace Go.Proofs.Ytlcbfahjejgjlaa
open Go Go.Jac
/-- What holds while pages are taken away. -/
structure RI (R : Nat → Nat) (cap : Int) (F : List Fr) (pl : PL) (ps : List Int) (F1 : List Fr) (pl1 : PL) : Prop where
  ui : UI R F1 pl1
  kn : Kn pl1
  ok : Pok cap F1
  lk : ∀ q, look pl1 q = if q ∈ ps then none else look pl q
  used : usedF F1 + pl.length = usedF F + pl1.length
  one : ∀ q f, look pl1 q = some f → (fr F1 f).users = 1
theorem RI.nil {R : Nat → Nat} {cap : Int} {F : List Fr} {pl : PL} (ui : UI R F pl) (kn : Kn pl) (ok : Pok cap F) (one : ∀ q f, look pl q = some f → (fr F f).users = 1) : RI R cap F pl [] F pl :=
  ⟨ui, kn, ok, by simp, rfl, one⟩
theorem RI.no {R : Nat → Nat} {cap : Int} {F F1 : List Fr} {pl pl1 : PL} {ps : List Int} {p : Int} (h : RI R cap F pl ps F1 pl1) (hl : look pl1 p = none) : RI R cap F pl (ps ++ [p]) F1 pl1 := by
  refine ⟨h.ui, h.kn, h.ok, fun q => ?_, h.used, h.one⟩
  rw [h.lk q]
  by_cases hq : q = p
  · subst hq
    rw [h.lk q] at hl
    rw [hl]; simp
  · simp [hq]
theorem RI.yes {R : Nat → Nat} {cap : Int} {F F1 : List Fr} {pl pl1 : PL} {ps : List Int} {p : Int} {f : Nat} (h : RI R cap F pl ps F1 pl1) (hl : look pl1 p = some f) : RI R cap F pl (ps ++ [p]) (F1.set f ⟨(fr F1 f).data, (fr F1 f).users - 1⟩) (delP pl1 p) := by
  have hu := h.one p f hl
  have hf := fr_lt (F := F1) (i := f) (by omega)
  obtain ⟨h1, h2⟩ := del_parts h.kn hl
  refine ⟨fun g => ?_, h.kn.del p, ⟨h.ok.mo, by rw [List.length_set]; exact h.ok.len, fun x hx => ?_⟩, fun q => ?_, ?_, fun q g hq => ?_⟩
  · rw [fr_set hf]
    have e1 := h.ui g
    have e2 := h2 g
    by_cases e : g = f
    · subst e
      rw [if_pos rfl] at e2 ⊢
      show (fr F1 g).users - 1 = _
      omega
    · rw [if_neg e]
      rw [if_neg (fun e' => e e'.symm)] at e2
      omega
  · rcases List.mem_or_eq_of_mem_set hx with hx | rfl
    · exact h.ok.us x hx
    · show 0 ≤ (fr F1 f).users - 1 ∧ (fr F1 f).users - 1 ≤ 1000000
      omega
  · rw [look_del, h.lk q]
    by_cases hq : q = p
    · subst hq; simp
    · simp [hq]
  · have e := usedF_set hf (⟨(fr F1 f).data, (fr F1 f).users - 1⟩ : Fr)
    have e3 : us0 F1[f] = false := by rw [us0_fr hf, hu]; rfl
    have e4 : us0 (⟨(fr F1 f).data, (fr F1 f).users - 1⟩ : Fr) = true := by rw [hu]; rfl
    rw [e3, e4] at e
    simp only [Bool.false_eq_true, if_false, if_true] at e
    have := h.used
    omega
  · have hc := cnt_pos hq
    rw [look_del] at hq
    split at hq
    · cases hq
    · have h3 := h.one q g hq
      rw [fr_set hf]
      by_cases e : g = f
      · subst e
        have e1 := h.ui g
        have e2 := h2 g
        rw [if_pos rfl] at e2
        omega
      · rw [if_neg e]; exact h3
section
variable {w0 w : World} {L : List HP} {K : Value → WP} {b : Nat} {last most cap : Int} {F : List Fr} {M : List Vo} {x : Vo}
theorem VOpC_ok {id a n : Int} (h : VW cap F M) (hx : live M id = some x) (hs : x.sl = false) (ha : 0 ≤ a ∧ a % 64 = 0) (hn : 0 ≤ n ∧ n % 64 = 0 ∧ n ≤ 4096) (hsz : a ≤ x.size ∧ n ≤ x.size - a) (d : D w0 (Vs b last most cap F M :: L) w)
    (k0 : cap < usedF F + needF (F, x.pl) (pgL a n) → ∀ w', D w0 (Vs b last most cap F M :: L) w' → K (.int .i64 (-4)) w')
    (k1 : (usedF F : Int) + needF (F, x.pl) (pgL a n) ≤ cap → ∀ F' pl' w', CS (tot (rmV id M)) cap (F, x.pl) (F', pl') → (∀ q, look pl' q ≠ none ↔ q ∈ pgL a n ∨ look x.pl q ≠ none) → (∀ q ∈ pgL a n, ∃ f, look pl' q = some f ∧ (fr F' f).users = 1) → ((∀ q ∈ pgL a n, look x.pl q = none) → usedF F' = usedF F + (pgL a n).length) →
      D w0 (Vs b last most cap F' ({ x with pl := pl' } :: rmV id M) :: L) w' → K (.int .i64 0) w') :
    Cl pg 18 #[.pointer (some ⟨b, 0, none⟩), .int .i64 id, .int .i64 1, .int .i64 a, .int .i64 n] K w := by
  refine V.vmo_Set_Op_ok ?_
  unfold V.vmo_Set_Op
  obtain ⟨m, pb, d⟩ := Vs.out d
  have hbs : ∀ x, live M id = some x → ∃ N y t, N ≤ 1000 ∧ BaseN M N x y t := fun x hx => h.base id x (live_some hx).1
  have hxl := live_some hx
  have hsx := h.sz x (vfind_id hxl.1).2
  have hyf := (h.hasf id x hxl.1).1 hs
  refine fn20 (fun _ _ => rfl) (vfind_ok h.nd d (fun hno w d => by rw [hno] at hx; cases hx) fun x' _ w d => ?_)
  repeat (simp +decide only [SEM])
  have e1 : a.tmod 64 = 0 := by rw [Int.tmod_eq_emod_of_nonneg (by omega)]; omega
  have e2 : n.tmod 64 = 0 := by rw [Int.tmod_eq_emod_of_nonneg (by omega)]; omega
  rw [e1, e2]
  repeat (simp +decide only [SEM])
  refine fn40 (fun _ _ => rfl) (reach_ok h.nd h.sz h.frm h.dep d hbs (fun hno e w he d => absurd ⟨ha.1, hn.1, hsz.1, hsz.2⟩ (hno x hx)) fun x' N y t hx' hr hN hby w d => ?_)
  rw [hx] at hx'
  obtain rfl := Option.some.inj hx'
  obtain ⟨-, rfl, rfl⟩ := hby.flat hs
  rw [Int.zero_add]
  repeat (simp +decide only [SEM])
  refine ⟨fun hb => by omega, fun _ => ?_⟩
  refine fn20 (fun _ _ => rfl) (touched_ok (by omega) (by omega) d fun pv w d => ?_)
  have d := vone_out h.nd hxl.1 (D.sel [4] d)
  rw [vcell_f hyf, fmp_f hyf] at d
  have hpn : pgN a n ≤ 4097 := by
    unfold pgN
    split <;> omega
  refine fn30 (fun _ _ => rfl) (commit_ok (R := tot (rmV id M)) (ps := pgL a n) (pgL_nd _ _) (by rw [pgL_len]; omega) (h.uiR hxl.1) (h.kn _ _ hxl.1) h.ok (D.sel [0, 2, 6, 5, 4] d) (fun hno w d => ?_) fun hroom w d => ?_)
  · skip
    have d := vone_back h.nd hxl.1 (by rw [vcell_f hyf, fmp_f hyf]; exact D.sel [0, 5, 1, 6] d)
    exact k0 hno w (Vs.mk (m := m) (pb := pb) (D.sel [2, 1, 3, 0] (D.sel [3] d).tail))
  · obtain ⟨f1, f2, f3, f4, -, -, f7⟩ := cm_fold (R := tot (rmV id M)) (cap := cap) (pgL a n) (s := (F, y.pl)) (pgL_nd _ _) (h.uiR hxl.1) (h.kn _ _ hxl.1) h.ok hroom
    generalize (pgL a n).foldl cm1 (F, y.pl) = S at *
    obtain ⟨F1, pl1⟩ := S
    simp only at f2 f3 f4 f7 d
    skip
    have hv2 : vcell { y with pl := pl1 } = .int .i64 y.size :: .int .i64 y.parent :: .map (some y.fb) :: [y.cv, .bool y.sl, .int .i64 y.from_, .int .i64 y.depth, .bool y.dr] := vcell_f (y := { y with pl := pl1 }) hyf
    have hf2 : fmp { y with pl := pl1 } = Mp y.fb (fgM pl1) pl1.length := fmp_f (y := { y with pl := pl1 }) hyf
    have d : D w0 (cel y.blk 65 (vcell { y with pl := pl1 }) :: Rw 3 1 y.cv y.ch.length (y.ch.flatMap nc) :: fmp { y with pl := pl1 } :: sat ((rmV id M).map vob) :: Pl pb cap F1 :: cel b 60 [.pointer (some ⟨pb, 0, none⟩), .map (some m), .int .i64 most, .int .i64 last] :: Rw 3 1 pv (pgL a n).length ((pgL a n).flatMap nc) :: Mp m (vmap M) M.length :: L) w := by
      rw [hv2, hf2]
      exact D.sel [0, 5, 1, 6] d
    have d := vone_in (y := { y with pl := pl1 }) (R := rmV id M) d
    have e5 := vmap_set (y := { y with pl := pl1 }) hxl.1 (vfind_id hxl.1).1 rfl
    have e6 := setv_len (y := { y with pl := pl1 }) h.nd hxl.1
    refine k1 hroom F1 pl1 w f1 f2 f4 f7 (Vs.mk (m := m) (pb := pb) ?_)
    rw [e5, e6]
    exact D.sel [2, 1, 3, 0] (D.sel [3] d).tail
theorem VOpD_ok {id a n : Int} (h : VW cap F M) (hx : live M id = some x) (hs : x.sl = false) (ha : 0 ≤ a ∧ a % 64 = 0) (hn : 0 ≤ n ∧ n % 64 = 0 ∧ n ≤ 4096) (hsz : a ≤ x.size ∧ n ≤ x.size - a) (h1 : ∀ q f, look x.pl q = some f → (fr F f).users = 1) (d : D w0 (Vs b last most cap F M :: L) w)
    (k : ∀ F' pl' w', RI (tot (rmV id M)) cap F x.pl (pgL a n) F' pl' → D w0 (Vs b last most cap F' ({ x with pl := pl' } :: rmV id M) :: L) w' → K (.int .i64 0) w') :
    Cl pg 18 #[.pointer (some ⟨b, 0, none⟩), .int .i64 id, .int .i64 2, .int .i64 a, .int .i64 n] K w := by
  refine V.vmo_Set_Op_ok ?_
  unfold V.vmo_Set_Op
  obtain ⟨m, pb, d⟩ := Vs.out d
  have hbs : ∀ x, live M id = some x → ∃ N y t, N ≤ 1000 ∧ BaseN M N x y t := fun x hx => h.base id x (live_some hx).1
  have hxl := live_some hx
  have hsx := h.sz x (vfind_id hxl.1).2
  have hyf := (h.hasf id x hxl.1).1 hs
  refine fn20 (fun _ _ => rfl) (vfind_ok h.nd d (fun hno w d => by rw [hno] at hx; cases hx) fun x' _ w d => ?_)
  repeat (simp +decide only [SEM])
  have e1 : a.tmod 64 = 0 := by rw [Int.tmod_eq_emod_of_nonneg (by omega)]; omega
  have e2 : n.tmod 64 = 0 := by rw [Int.tmod_eq_emod_of_nonneg (by omega)]; omega
  rw [e1, e2]
  repeat (simp +decide only [SEM])
  refine fn40 (fun _ _ => rfl) (reach_ok h.nd h.sz h.frm h.dep d hbs (fun hno e w he d => absurd ⟨ha.1, hn.1, hsz.1, hsz.2⟩ (hno x hx)) fun x' N y t hx' hr hN hby w d => ?_)
  rw [hx] at hx'
  obtain rfl := Option.some.inj hx'
  obtain ⟨-, rfl, rfl⟩ := hby.flat hs
  rw [Int.zero_add]
  repeat (simp +decide only [SEM])
  refine ⟨fun hb => by omega, fun _ => ?_⟩
  refine fn20 (fun _ _ => rfl) (touched_ok (by omega) (by omega) d fun pv w d => ?_)
  have d := vone_out h.nd hxl.1 (D.sel [4] d)
  rw [vcell_f hyf, fmp_f hyf] at d
  have hpn : pgN a n ≤ 4097 := by
    unfold pgN
    split <;> omega
  have hln := pgL_len a n
  refine len_rw (D.sel [4] d) ?_
  have hv2 : ∀ pl1, vcell { y with pl := pl1 } = .int .i64 y.size :: .int .i64 y.parent :: .map (some y.fb) :: [y.cv, .bool y.sl, .int .i64 y.from_, .int .i64 y.depth, .bool y.dr] := fun pl1 => vcell_f (y := { y with pl := pl1 }) hyf
  have hf2 : ∀ pl1, fmp { y with pl := pl1 } = Mp y.fb (fgM pl1) pl1.length := fun pl1 => fmp_f (y := { y with pl := pl1 }) hyf
  have e5 : ∀ pl1, vmap ({ y with pl := pl1 } :: rmV id M) = vmap M := fun pl1 => vmap_set (y := { y with pl := pl1 }) hxl.1 (vfind_id hxl.1).1 rfl
  have e6 : ∀ pl1, ({ y with pl := pl1 } :: rmV id M).length = M.length := fun pl1 => setv_len (y := { y with pl := pl1 }) h.nd hxl.1
  refine ⟨fun vs w' => ∃ (i : Nat) (F1 : List Fr) (pl1 : PL), vs = [.int .i64 i] ∧ i ≤ (pgL a n).length ∧ RI (tot (rmV id M)) cap F y.pl ((pgL a n).take i) F1 pl1 ∧
      D w0 (cel y.blk 65 (.int .i64 y.size :: .int .i64 y.parent :: .map (some y.fb) :: [y.cv, .bool y.sl, .int .i64 y.from_, .int .i64 y.depth, .bool y.dr]) :: Mp y.fb (fgM pl1) pl1.length :: Pl pb cap F1 :: cel b 60 [.pointer (some ⟨pb, 0, none⟩), .map (some m), .int .i64 most, .int .i64 last] :: Rw 3 1 pv (pgL a n).length ((pgL a n).flatMap nc) :: Rw 3 1 y.cv y.ch.length (y.ch.flatMap nc) :: sat ((rmV id M).map vob) :: Mp m (vmap M) M.length :: L) w',
    fun vs _ => match vs with | [.int _ i] => (pgL a n).length - i.toNat | _ => 0, ⟨0, F, y.pl, rfl, by omega, RI.nil (h.uiR hxl.1) (h.kn _ _ hxl.1) h.ok h1, D.sel [0, 2, 6, 5, 4] d⟩, ?_⟩
  clear d
  rintro _ w ⟨i, F1, pl1, rfl, hi, hri, d⟩ _
  simp only [UN]
  repeat (simp +decide only [SEM])
  refine ⟨fun hlt => ?_, fun hge => ?_⟩
  · have hlt' : i < (pgL a n).length := by omega
    refine rw_el1 (S := pgL a n) (f := nc) d (.t _ _ (.t _ _ (.t _ _ (.t _ _ (.h _))))) nc_len hlt' (v := .int .i64 (pgL a n)[i]) rfl ?_
    have e7 : (pgL a n).take (i + 1) = (pgL a n).take i ++ [(pgL a n)[i]] := List.take_succ_eq_append_getElem hlt'
    have hw1 : IntKind.i64.wrap ((i : Int) + 1) = i + 1 := w64 (by omega) (by omega)
    refine fn30 (fun _ _ => rfl) (release_ok hri.kn (fun f hf => by rw [hri.one _ f hf]; omega) (by have := hri.ok.len; have := hri.ok.mo; omega) d (fun hno w d => ?_) fun f hf w d => ?_)
    · repeat (simp +decide only [SEM])
      rw [hw1]
      exact ⟨⟨i + 1, F1, pl1, by simp, by omega, by rw [e7]; exact hri.no hno, d⟩, by show _ - ((i : Int) + 1).toNat < _ - (i : Int).toNat; omega⟩
    · repeat (simp +decide only [SEM])
      rw [hw1]
      exact ⟨⟨i + 1, _, _, by simp, by omega, by rw [e7]; exact hri.yes hf, d⟩, by show _ - ((i : Int) + 1).toNat < _ - (i : Int).toNat; omega⟩
  · rw [List.take_of_length_le (by omega)] at hri
    have d : D w0 (cel y.blk 65 (vcell { y with pl := pl1 }) :: Rw 3 1 y.cv y.ch.length (y.ch.flatMap nc) :: fmp { y with pl := pl1 } :: sat ((rmV id M).map vob) :: Pl pb cap F1 :: cel b 60 [.pointer (some ⟨pb, 0, none⟩), .map (some m), .int .i64 most, .int .i64 last] :: Rw 3 1 pv (pgL a n).length ((pgL a n).flatMap nc) :: Mp m (vmap M) M.length :: L) w := by
      rw [hv2, hf2]
      exact D.sel [0, 5, 1, 6] d
    have d := vone_in (y := { y with pl := pl1 }) (R := rmV id M) d
    refine k F1 pl1 w hri (Vs.mk (m := m) (pb := pb) ?_)
    rw [e5, e6]
    exact D.sel [2, 1, 3, 0] (D.sel [3] d).tail
end
end Go.Proofs.Ytlcbfahjejgjlaa

set_option maxRecDepth 100000
set_option maxHeartbeats 8000000
namespace Go.Proofs.Ytlcbfahjejgjlaa
open Go Go.Jac
theorem look_in {pl : PL} (hk : Kn pl) {p : Int} {f : Nat} (h : (p, f) ∈ pl) : look pl p = some f := by
  induction pl with
  | nil => cases h
  | cons e r ih =>
    unfold Kn at hk
    rw [List.map_cons, List.nodup_cons] at hk
    rw [look_cons]
    rcases List.mem_cons.1 h with rfl | h
    · simp
    · rw [if_neg (fun (e' : e.1 = p) => hk.1 (List.mem_map.2 ⟨_, h, e'.symm⟩))]
      exact ih hk.2 h
theorem look_key {pl : PL} {q : Int} : look pl q ≠ none ↔ q ∈ pl.map (·.1) := by
  induction pl with
  | nil => simp [look]
  | cons e r ih =>
    rw [look_cons, List.map_cons, List.mem_cons]
    split
    · rename_i h; simp [h]
    · rename_i h
      rw [ih]
      constructor
      · exact .inr
      · rintro (h' | h')
        · exact absurd h'.symm h
        · exact h'
theorem cnt_ex {pl : PL} {f : Nat} (hk : Kn pl) (h : 0 < cnt pl f) : ∃ q, look pl q = some f := by
  unfold cnt at h
  obtain ⟨e, he, hf⟩ := List.countP_pos_iff.1 h
  refine ⟨e.1, look_in hk ?_⟩
  have : e.2 = f := by simpa using hf
  rw [← this]; exact he
theorem pl_len {pl : PL} {ps : List Int} (hk : Kn pl) (hn : ps.Nodup) (h : ∀ q, look pl q ≠ none ↔ q ∈ ps) : pl.length = ps.length := by
  have := ((List.perm_ext_iff_of_nodup hk hn).2 fun q => (look_key (pl := pl) (q := q)).symm.trans (h q)).length_eq
  simpa using this
theorem need_nil (F : List Fr) (ps : List Int) : needF (F, []) ps = ps.length := by
  unfold needF
  exact List.countP_eq_length.2 fun q _ => rfl
theorem pgN_z (N : Nat) : pgN 0 (64 * (N : Int)) = N := by
  unfold pgN
  split <;> omega
/-- What was committed to an object that had nothing. -/
structure CE (cap : Int) (F : List Fr) (M : List Vo) (id : Int) (x : Vo) (N : Nat) (g : Int) (F' : List Fr) (M' : List Vo) (pl' : PL) : Prop where
  vw : VW cap F' M'
  g0 : g = 0 ↔ (usedF F : Int) + N ≤ cap
  eqM : ∀ a, vfind M' a = if a = id then some { x with pl := pl' } else vfind M a
  used : usedF F' = usedF F + if g = 0 then N else 0
  pgs : ∀ q, look pl' q ≠ none → q ∈ pgL 0 (64 * (N : Int))
  len : pl'.length = if g = 0 then N else 0
  one : ∀ q f, look pl' q = some f → (fr F' f).users = 1
  oth : ∀ f, 0 < (fr F f).users → (fr F' f).users = (fr F f).users
section
variable {w0 w : World} {L : List HP} {K : Value → WP} {b : Nat} {last most cap : Int} {F : List Fr} {M : List Vo} {x : Vo}
theorem VOpE_ok {id : Int} {N : Nat} (h : VW cap F M) (hx : live M id = some x) (hs : x.sl = false) (hpl : x.pl = []) (hN : N ≤ 64) (hsz : 64 * (N : Int) ≤ x.size) (d : D w0 (Vs b last most cap F M :: L) w)
    (k : ∀ g F' M' pl' w', CE cap F M id x N g F' M' pl' → D w0 (Vs b last most cap F' M' :: L) w' → K (.int .i64 g) w') :
    Cl pg 18 #[.pointer (some ⟨b, 0, none⟩), .int .i64 id, .int .i64 1, .int .i64 0, .int .i64 (64 * (N : Int))] K w := by
  have hxl := live_some hx
  have hsx := h.sz x (vfind_id hxl.1).2
  have hyf := (h.hasf id x hxl.1).1 hs
  have hl : (pgL 0 (64 * (N : Int))).length = N := by rw [pgL_len, pgN_z]
  refine VOpC_ok h hx hs (by omega) (by omega) (by omega) d (fun hno w d => ?_) fun hroom F' pl' w hcs hp h1 hu d => ?_
  · rw [hpl, need_nil, hl] at hno
    refine k (-4) F M [] w ⟨h, ⟨fun e => by omega, fun e => by omega⟩, fun a => ?_, by simp, by simp [look], by simp, by simp [look], fun _ _ => rfl⟩ d
    split
    · rename_i e
      rw [e, hxl.1, ← hpl]
    · rfl
  · rw [hpl, need_nil, hl] at hroom
    rw [hpl] at hp hu
    have hp' : ∀ q, look pl' q ≠ none ↔ q ∈ pgL 0 (64 * (N : Int)) := fun q => by rw [hp q]; simp [look]
    have hu' := hu fun q _ => rfl
    rw [hl] at hu'
    have hon : ∀ q f, look pl' q = some f → (fr F' f).users = 1 := fun q f hf => by
      obtain ⟨f', e1, e2⟩ := h1 q ((hp' q).1 (by rw [hf]; simp))
      rw [hf] at e1
      obtain rfl := Option.some.inj e1
      exact e2
    have hui := hcs.ui
    have hkn := hcs.kn
    have hok := hcs.ok
    simp only at hui hkn hok
    refine k 0 F' _ pl' w ⟨h.pl hxl.1 hyf hok hkn hui, ⟨fun _ => hroom, fun _ => rfl⟩, fun a => vfind_upd (y := { x with pl := pl' }) (vfind_id hxl.1).1 a, by rw [hu']; simp, fun q hq => (hp' q).1 hq, by rw [pl_len hkn (pgL_nd _ _) hp', hl]; simp, hon, fun f hf => ?_⟩ d
    have e1 := h.ui f
    rw [tot_rm h.nd hxl.1, hpl] at e1
    have e2 := hui f
    have e3 : cnt [] f = 0 := rfl
    rcases Nat.eq_zero_or_pos (cnt pl' f) with e | e
    · omega
    · obtain ⟨q, hq⟩ := cnt_ex hkn e
      have := hon q f hq
      omega
end
section
variable {w0 w : World} {L : List HP} {K : Value → WP}
theorem vroom_law {cap first more : Int} (hc : I64 cap) (hf : I64 first) (hm : I64 more) (d : D w0 L w) (k : ∀ w', D w0 L w' → K (.bool true) w') :
    Cl pg 5 #[.int .i64 cap, .int .i64 first, .int .i64 more] K w := by
  refine V.jacinthlaw08_VmoRoom_ok ?_
  unfold V.jacinthlaw08_VmoRoom
  have aw : ∀ {L' : List HP} {w : World} {K' : Value → WP}, D w0 L' w → (∀ w', D w0 L' w' → K' (.bool true) w') → FnV pg (.func (.func 9) #[] #[]) #[] K' w := fun d k => fn00 (fun _ _ => rfl) (awake_ok d k)
  by_cases hcap : 0 ≤ cap ∧ cap ≤ 65536
  · refine fn20 (fun _ _ => rfl) (VNew_ok (cap := cap) (n := 3) hcap (by omega) d fun b w d => ?_)
    have hd : FnV pg (.func (.func 9) #[] #[]) #[] K w := aw d fun w d => k w d.tail
    have vw0 := VW.nil hcap
    repeat (simp +decide only [SEM])
    refine ⟨fun _ => ⟨fun _ => ⟨fun _ => ⟨fun _ => ⟨fun _ => hd, fun _ => ?_⟩, fun _ => hd⟩, fun _ => hd⟩, fun _ => hd⟩, fun _ => hd⟩
    clear hd
    obtain ⟨f, rfl⟩ := Int.eq_ofNat_of_zero_le (a := first) (by omega)
    obtain ⟨m, rfl⟩ := Int.eq_ofNat_of_zero_le (a := more) (by omega)
    refine fn20 (fun _ _ => rfl) (VCreate_ok (n := 4096) (by omega) vw0.nd (by simp) (by omega) rfl rfl (by simp) d fun fb c w d => ?_)
    have d : D w0 (Vs b 1 3 cap [] [newV 1 4096 fb c] :: L) w := d
    have vw1 : VW cap [] [newV 1 4096 fb c] := vw0.new rfl (by omega)
    rw [show (0 : Int) + 1 = 1 from rfl]
    repeat (simp +decide only [SEM])
    refine fn20 (fun _ _ => rfl) (VCreate_ok (n := 4096) (by omega) vw1.nd (by simp) (by omega) rfl rfl (by simp [newV]) d fun fb2 c2 w d => ?_)
    have d : D w0 (Vs b 2 3 cap [] [newV 2 4096 fb2 c2, newV 1 4096 fb c] :: L) w := d
    have vw2 : VW cap [] [newV 2 4096 fb2 c2, newV 1 4096 fb c] := vw1.new rfl (by omega)
    rw [show (1 : Int) + 1 = 2 from rfl]
    repeat (simp +decide only [SEM])
    rw [show IntKind.i64.wrap (64 * (f : Int)) = 64 * (f : Int) from w64 (by omega) (by omega)]
    refine fn50 (fun _ _ => rfl) (VOpE_ok (id := 1) (N := f) vw2 (x := newV 1 4096 fb c) rfl rfl rfl (by omega) (by show 64 * (f : Int) ≤ 4096; omega) d fun g F1 M1 pl1 w c1 d => ?_)
    have hg := c1.g0
    rw [show usedF [] = 0 from rfl] at hg
    repeat (simp +decide only [SEM])
    have e0 : (decide (g = 0) == decide ((f : Int) ≤ cap)) = true := by rw [decide_eq_decide.2 (show g = 0 ↔ (f : Int) ≤ cap by omega), beq_self_eq_true]
    refine ⟨fun h => (by rw [e0] at h; cases h), fun _ => ?_⟩
    obtain ⟨u, hu⟩ : ∃ u : Nat, u = (if g = 0 then f else 0) := ⟨_, rfl⟩
    have hu2 : u ≤ 40 := by rw [hu]; split <;> omega
    have hu3 : usedF F1 = u := by rw [c1.used, hu]; exact Nat.zero_add _
    have hu4 : pl1.length = u := by rw [c1.len, hu]
    intro K' hK'
    have fin : K' [.int .i64 (u : Int)] w := by
      refine hK' _ _ fun _ => ?_
      clear hK'
      simp only [UN]
      repeat (simp +decide only [SEM])
      rw [show IntKind.i64.wrap (64 * (m : Int)) = 64 * (m : Int) from w64 (by omega) (by omega)]
      obtain ⟨x1, hx1⟩ : ∃ x1 : Vo, x1 = ⟨1, 4096, 0, true, fb, pl1, .slice none 0 0, [], false, 0, 0, false, c⟩ := ⟨_, rfl⟩
      have l1 : vfind M1 1 = some x1 := by rw [c1.eqM, if_pos rfl, hx1]; rfl
      have l2 : vfind M1 2 = some (newV 2 4096 fb2 c2) := by rw [c1.eqM, if_neg (by decide)]; rfl
      have lv2 : live M1 2 = some (newV 2 4096 fb2 c2) := by unfold live; rw [l2]; rfl
      refine fn50 (fun _ _ => rfl) (VOpE_ok (id := 2) (N := m) c1.vw (x := newV 2 4096 fb2 c2) lv2 rfl rfl (by omega) (by show 64 * (m : Int) ≤ 4096; omega) d fun h F2 M2 pl2 w c3 d => ?_)
      have hh := c3.g0
      rw [hu3] at hh
      repeat (simp +decide only [SEM])
      rw [show IntKind.i64.wrap (cap - (u : Int)) = cap - u from w64 (by omega) (by omega)]
      have e1 : (decide (h = 0) == decide ((m : Int) ≤ cap - u)) = true := by rw [decide_eq_decide.2 (show h = 0 ↔ (m : Int) ≤ cap - u by omega), beq_self_eq_true]
      refine ⟨fun h => (by rw [e1] at h; cases h), fun _ => ?_⟩
      obtain ⟨u2, hu5⟩ : ∃ u2 : Nat, u2 = u + (if h = 0 then m else 0) := ⟨_, rfl⟩
      have hu6 : u2 ≤ 80 := by rw [hu5]; split <;> omega
      have hu7 : usedF F2 = u2 := by rw [c3.used, hu5, hu3]
      intro K2 hK2
      have fin : K2 [.int .i64 (u2 : Int)] w := by
        refine hK2 _ _ fun _ => ?_
        clear hK2
        simp only [UN]
        refine fn10 (fun _ _ => rfl) (VRoom_ok (F := F2) (cap := cap) hcap (by omega) d fun w d => ?_)
        repeat (simp +decide only [SEM])
        rw [hu7, show IntKind.i64.wrap (cap - (u2 : Int)) = cap - u2 from w64 (by omega) (by omega)]
        refine ⟨fun _ => ?_, fun h => absurd rfl h⟩
        skip
        rw [show IntKind.i64.wrap (64 * (f : Int)) = 64 * (f : Int) from w64 (by omega) (by omega)]
        have l3 : vfind M2 1 = some x1 := by rw [c3.eqM, if_neg (by decide)]; exact l1
        have lv3 : live M2 1 = some x1 := by unfold live; rw [l3, hx1]; rfl
        have x1p : x1.pl = pl1 := by rw [hx1]
        have x1s : x1.size = 4096 := by rw [hx1]
        have hone : ∀ q t, look x1.pl q = some t → (fr F2 t).users = 1 := fun q t ht => by
          rw [x1p] at ht
          have h1 := c1.one q t ht
          rw [c3.oth t (by omega), h1]
        refine fn50 (fun _ _ => rfl) (VOpD_ok (id := 1) (a := 0) (n := 64 * (f : Int)) c3.vw lv3 (by rw [hx1]) (by omega) (by omega) (by rw [x1s]; omega) hone d fun F3 pl3 w ri d => ?_)
        have hno : ∀ q, look pl3 q = none := fun q => by
          rw [ri.lk q, x1p]
          split
          · rfl
          · rename_i hq
            cases hl : look pl1 q with
            | none => rfl
            | some t => exact absurd (c1.pgs q (by rw [hl]; simp)) hq
        have hl3 : pl3.length = 0 := pl_len (ps := []) ri.kn List.nodup_nil fun q => by simp [hno q]
        have hu8 := ri.used
        rw [x1p, hu4, hu7, hl3] at hu8
        have hn3 : Nv ({ x1 with pl := pl3 } :: rmV 1 M2) := c3.vw.nd.upd (x := x1) (y := { x1 with pl := pl3 }) (by rw [hx1])
        have l4 : vfind ({ x1 with pl := pl3 } :: rmV 1 M2) 1 = some { x1 with pl := pl3 } := by rw [vfind_cons, if_pos (by rw [hx1])]
        repeat (simp +decide only [SEM])
        refine fn20 (fun _ _ => rfl) (VInfo_ok hn3 l4 (fun h => by rw [hx1] at h; cases h) d fun w d => ?_)
        repeat (first | (simp +decide only [SEM]) | (apply ldm d; (focus ((repeat (first | exact .h _ | refine .t _ _ ?_)); done)); (focus rfl)) | (refine d_new _ d fun bn w d => ?_) | (apply swm d; (focus ((repeat (first | exact .h _ | apply Rp.t)); done)); (focus rfl); (focus rfl); (focus exact ones rfl); intro w d; simp only [SPL] at d))
        rw [hl3]
        repeat (simp +decide only [SEM])
        refine ⟨fun hg0 => ?_, fun _ => aw (D.sel [1] d) fun w d => k w d.tail.tail⟩
        rw [if_pos hg0] at hu
        refine fn10 (fun _ _ => rfl) (VRoom_ok (F := F3) (cap := cap) hcap (by omega) (D.sel [1] d) fun w d => ?_)
        repeat (simp +decide only [SEM])
        rw [show IntKind.i64.wrap (cap - (u2 : Int)) = cap - u2 from w64 (by omega) (by omega), show IntKind.i64.wrap (cap - (u2 : Int) + f) = cap - u2 + f from w64 (by omega) (by omega)]
        refine ⟨fun _ => aw d fun w d => k w d.tail.tail, fun h => absurd (by omega) h⟩
      repeat (simp +decide only [SEM])
      rw [show IntKind.i64.wrap ((u : Int) + m) = ((u + m : Nat) : Int) from by rw [w64 (by omega) (by omega)]; simp]
      refine ⟨fun h => ?_, fun h => ?_⟩
      · rw [hu5, if_pos h] at fin; exact fin
      · rw [hu5, if_neg h] at fin; exact fin
    repeat (simp +decide only [SEM])
    refine ⟨fun h => ?_, fun h => ?_⟩
    · rw [hu, if_pos h] at fin; exact fin
    · rw [hu, if_neg h] at fin; exact fin
  · refine fn20 (fun _ _ => rfl) (VNew_no (cap := cap) (n := 3) hcap d fun w d => ?_)
    have hd : FnV pg (.func (.func 9) #[] #[]) #[] K w := aw d k
    repeat (simp +decide only [SEM])
    refine ⟨fun h => ⟨fun _ => hd, fun h2 => absurd ⟨by omega, by omega⟩ hcap⟩, fun _ => hd⟩
end
end Go.Proofs.Ytlcbfahjejgjlaa

set_option maxRecDepth 100000
set_option maxHeartbeats 8000000
namespace Go.Proofs.Ytlcbfahjejgjlaa
open Go Go.Jac
section
variable {w0 w : World} {L : List HP} {K : Value → WP} {av bv sv : Value} {l : List Int}
theorem conv_ok (h : SeesB w sv l) (k : ∀ s, s = (⟨(l.map fun n => UInt8.ofNat n.toNat).toArray⟩ : ByteArray) → K (.string s) w) : Ex pg (convert 22 9 sv) K w := by
  obtain ⟨p, c, rfl, -, hx⟩ := h
  by_cases hl : l = []
  · subst hl
    refine ⟨_, w, ?_, k _ rfl⟩
    rw [run_convert_bytes_string w 22 9 5 p _ c Try.underlying22 Try.underlying5 Try.underlying9]
    cases p with
    | none => simp [Conv.bytesToString]; rfl
    | some a =>
      rw [List.length_nil, run_bytesToString w a 0 c [] (by have := run_loadCells_list (P := pg) w a [] (fun j v hv => by simp at hv); simpa using this)]
      rfl
  · obtain ⟨a, rfl, hcs⟩ := hx hl
    refine ⟨_, w, ?_, k _ rfl⟩
    rw [run_convert_bytes_string w 22 9 5 (some a) _ c Try.underlying22 Try.underlying5 Try.underlying9, run_bytesToString w a _ c l ?_, foldl_push_bytes]
    · simp [ByteArray.empty, ByteArray.emptyWithCapacity]
      rfl
    · have := run_loadCells_list (P := pg) w a (l.map (Value.int .u8)) (fun j v hj => by
        rw [List.getElem?_map] at hj
        cases hg : l[j]? with
        | none => rw [hg] at hj; cases hj
        | some y =>
          rw [hg] at hj
          obtain rfl := Option.some.inj hj
          exact hcs j y hg)
      simpa using this
theorem streq {t : TypeId} {ox oy : Operand} {a b : ByteArray} (k : K (.bool (a.toList == b.toList)) w) : BinX pg .eql t ox oy (.string a) (.string b) K w := by
  have hg : (eqGuard .eql t ox oy (.string a) (.string b)).run pg w = .ok () w := by unfold eqGuard; rfl
  exact ⟨_, w, by rw [Sem.run_bind, hg, binOp_string_eql]; rfl, k⟩
theorem Same_ok (ha : SeesB w av l) (hb : SeesB w bv l) (k : K (.bool true) w) : Cl pg 15 #[av, bv] K w := by
  refine V.jacinthref07_Same_ok ?_
  unfold V.jacinthref07_Same
  refine conv_ok ha fun s hs => conv_ok hb fun s' hs' => ?_
  refine streq ?_
  rw [hs, hs', beq_self_eq_true]
  exact k
/-- A list of bytes that was there. -/
theorem bytes_of (h : Rd pg w0 22 [sv]) : ∃ l : List Int, l.length ≤ maxLen ∧ SeesBA w0 (Old w0) sv l ∧ (∀ x ∈ l, 0 ≤ x ∧ x ≤ 255) := by
  rcases h.slice Try.underlying22 with e | ⟨a, len, cap, e, hl, hc, hx⟩
  · cases e
    exact ⟨[], Nat.zero_le _, fun L w d => ⟨none, 0, rfl, Nat.le_refl _, fun h => absurd rfl h⟩, by simp⟩
  · cases e
    rw [show pg.cellsOf 5 = 1 from by kernel_rfl] at hx
    have key : ∀ n, n ≤ len → ∃ l : List Int, l.length = n ∧ (∀ j x, l[j]? = some x → w0.cell? (a.add j) = some (.int .u8 x)) ∧ (∀ x ∈ l, 0 ≤ x ∧ x ≤ 255) := by
      intro n
      induction n with
      | zero => exact fun _ => ⟨[], rfl, by simp, by simp⟩
      | succ n ih =>
        intro hn
        obtain ⟨l, h1, h2, h3⟩ := ih (by omega)
        obtain ⟨vs, hv1, hv2, hv3⟩ := hx n (by omega)
        obtain ⟨x, rfl, hwf⟩ := Rd.int Try.underlying5 hv3
        refine ⟨l ++ [x], by simp [h1], fun j y hj => ?_, fun y hy => ?_⟩
        · rcases Nat.lt_trichotomy j n with h | h | h
          · rw [List.getElem?_append_left (by omega)] at hj
            exact h2 j y hj
          · rw [List.getElem?_append_right (by omega), h1, h, Nat.sub_self] at hj
            obtain rfl := Option.some.inj hj
            have := hv2 0 _ rfl
            rw [Addr.add_zero, Nat.mul_one] at this
            rw [h]; exact this
          · rw [List.getElem?_eq_none (by simp; omega)] at hj
            cases hj
        · rcases List.mem_append.1 hy with h | h
          · exact h3 y h
          · rw [List.mem_singleton.1 h]
            simp [Lit.wf, IntKind.min, IntKind.max, IntKind.signed, IntKind.bits] at hwf
            omega
    obtain ⟨l, h1, h2, h3⟩ := key len (Nat.le_refl _)
    refine ⟨l, by omega, fun L w d => ⟨some a, cap, by rw [h1], by omega, fun _ => ⟨a, rfl, fun j x hj => d.oldc (by simp) (h2 j x hj)⟩⟩, h3⟩
end
end Go.Proofs.Ytlcbfahjejgjlaa

set_option maxRecDepth 100000
set_option maxHeartbeats 8000000
namespace Go.Proofs.Ytlcbfahjejgjlaa
open Go Go.Jac
theorem BaseN.mono {M M' : List Vo} (hM : ∀ a z, vfind M a = some z → vfind M' a = some z) {n : Nat} {x y : Vo} {t : Int} (h : BaseN M n x y t) : BaseN M' n x y t := by
  induction h with
  | z h => exact .z h
  | s h hz _ ih => exact .s h (hM _ _ hz) ih
theorem BaseN.uniq {M : List Vo} {n n' : Nat} {x y y' : Vo} {t t' : Int} (h : BaseN M n x y t) (h' : BaseN M n' x y' t') : n = n' ∧ y = y' ∧ t = t' := by
  induction h generalizing n' y' t' with
  | z h =>
    obtain ⟨a, b, c⟩ := h'.flat h
    exact ⟨a.symm, b.symm, c.symm⟩
  | s h hz _ ih =>
    cases h' with
    | z h2 => rw [h] at h2; cases h2
    | s _ hz2 k2 =>
      rw [hz] at hz2
      obtain rfl := Option.some.inj hz2
      obtain ⟨a, b, c⟩ := ih k2
      exact ⟨by rw [a], b, by rw [c]⟩
/-- Other children. -/
def chV (id : Int) (cv : Value) (ch : List Int) (x : Vo) : Vo := if x.id = id then { x with cv := cv, ch := ch } else x
theorem chV_find {M : List Vo} {id : Int} {y : Vo} (hy : vfind M id = some y) (cv : Value) (ch : List Int) (a : Int) : vfind ({ y with cv := cv, ch := ch } :: rmV id M) a = (vfind M a).map (chV id cv ch) := by
  rw [vfind_upd (y := { y with cv := cv, ch := ch }) (vfind_id hy).1]
  split
  · rename_i e
    subst e
    rw [hy]
    simp [chV, (vfind_id hy).1]
  · rename_i e
    cases hz : vfind M a with
    | none => rfl
    | some z =>
      have := (vfind_id hz).1
      simp only [Option.map_some, chV]
      rw [if_neg (by rw [this]; exact e)]
theorem chV_key {id : Int} {cv : Value} {ch : List Int} {α : Type} (g : Vo → α) (hg : ∀ x : Vo, g { x with cv := cv, ch := ch } = g x) (x : Vo) : g (chV id cv ch x) = g x := by
  unfold chV; split
  · exact hg x
  · rfl
theorem VW.ch {cap : Int} {F : List Fr} {M : List Vo} {id : Int} {y : Vo} {cv : Value} {ch : List Int} (h : VW cap F M) (hy : vfind M id = some y) : VW cap F ({ y with cv := cv, ch := ch } :: rmV id M) := by
  refine h.map (f := chV id cv ch) (chV_find hy cv ch) (h.nd.upd (x := y) (y := { y with cv := cv, ch := ch }) (vfind_id hy).1) (chV_key _ fun _ => rfl) (chV_key _ fun _ => rfl) (chV_key _ fun _ => rfl) (fun a x hx => by rw [chV_key (fun x => x.size) fun _ => rfl]; exact h.sz x (vfind_id hx).2) (chV_key _ fun _ => rfl) (chV_key _ fun _ => rfl) h.ok (fun a x hx => ?_) (fun a x hx e e2 => ?_) fun i => ?_
  · rw [chV_key (fun x => x.pl) fun _ => rfl]; exact h.kn a x hx
  · rw [chV_key (fun x => x.pl) fun _ => rfl]; exact e2
  · rw [h.ui i, tot_cons, tot_rm h.nd hy]
theorem VW.win {cap : Int} {F : List Fr} {M : List Vo} {id p size a : Int} {x : Vo} {c : Nat} (h : VW cap F M) (hno : vfind M id = none) (hp : vfind M p = some x) (hb : ∃ N y t, N < 1000 ∧ BaseN M N x y t) (hd : 0 ≤ x.depth) (hs : 0 ≤ size ∧ size ≤ 4294967296) (ha : 0 ≤ a ∧ a ≤ 4294967296) : VW cap F (winV id size p a (x.depth + 1) c :: M) := by
  have hm : ∀ a' z, vfind M a' = some z → vfind (winV id size p a (x.depth + 1) c :: M) a' = some z := fun a' z hz => by
    rw [vfind_cons, if_neg (fun e => ?_), hz]
    have e : id = a' := e
    rw [← e, hno] at hz; cases hz
  have hc : ∀ a' z, vfind (winV id size p a (x.depth + 1) c :: M) a' = some z → z = winV id size p a (x.depth + 1) c ∨ vfind M a' = some z := fun a' z hz => by
    rw [vfind_cons] at hz
    split at hz
    · exact .inl (Option.some.inj hz).symm
    · exact .inr hz
  refine ⟨?_, h.ok, fun z hz => ?_, fun a' z hz => ?_, fun a' z z' h1 h2 h3 => ?_, fun a' z hz => ?_, fun a' z hz => ?_, fun a' z hz => ?_, fun f => ?_⟩
  · have hn := h.nd
    unfold Nv at hn ⊢
    rw [List.map_cons, List.nodup_cons]
    refine ⟨fun hmm => ?_, hn⟩
    obtain ⟨z, hz, e⟩ := List.mem_map.1 hmm
    have := vfind_mem h.nd hz
    have e : z.id = id := e
    rw [e, hno] at this; cases this
  · rcases List.mem_cons.1 hz with rfl | hz
    · exact hs
    · exact h.sz z hz
  · rcases hc a' z hz with rfl | hz
    · exact ha
    · exact h.frm a' z hz
  · rcases hc a' z h1 with rfl | h1
    · have h3 : vfind (winV id size p a (x.depth + 1) c :: M) p = some z' := h3
      rw [hm _ _ hp] at h3
      obtain rfl := Option.some.inj h3
      exact ⟨hd, by show x.depth < x.depth + 1; omega⟩
    · obtain ⟨N, y, t, _, hbb⟩ := h.base a' z h1
      cases hbb with
      | z h => rw [h] at h2; cases h2
      | s _ hz _ =>
        rw [hm _ _ hz] at h3
        obtain rfl := Option.some.inj h3
        exact h.dep a' z _ h1 h2 hz
  · rcases hc a' z hz with rfl | hz
    · obtain ⟨N, y, t, hN, hbb⟩ := hb
      exact ⟨N + 1, y, _, by omega, .s rfl (hm _ _ hp) (hbb.mono hm)⟩
    · obtain ⟨N, y, t, hN, hbb⟩ := h.base a' z hz
      exact ⟨N, y, t, hN, hbb.mono hm⟩
  · rcases hc a' z hz with rfl | hz
    · exact ⟨fun h => (by cases h), fun _ => rfl⟩
    · exact h.hasf a' z hz
  · rcases hc a' z hz with rfl | hz
    · exact List.nodup_nil
    · exact h.kn a' z hz
  · rw [h.ui f, tot_cons]
    show _ = ((cnt [] f + tot M f : Nat) : Int)
    simp [cnt]
/-- Windows one above the other. -/
structure Dp (j : Nat) (M : List Vo) (x y : Vo) : Prop where
  vw : VW 40 [] M
  len : M.length = j + 1
  no : ∀ id, (j : Int) + 1 < id → vfind M id = none
  ch : ∀ z ∈ M, z.ch.length ≤ 1
  dp : ∀ z ∈ M, 0 ≤ z.depth ∧ z.depth ≤ 16
  x1 : vfind M ((j : Int) + 1) = some x
  xd : x.dr = false
  xs : x.size = 1920 - 64 * (j : Int)
  xp : x.depth = j
  xc : x.ch = []
  xl : x.sl = decide (0 < j)
  y1 : vfind M 1 = some y
  yd : y.dr = false
  yl : y.sl = false
  ys : y.size = 1920
  yp : y.pl = []
  bs : BaseN M j x y (64 * (j : Int))
theorem Dp.zero {fb c : Nat} : Dp 0 [newV 1 1920 fb c] (newV 1 1920 fb c) (newV 1 1920 fb c) :=
  ⟨(VW.nil (by omega)).new rfl (by omega), rfl, fun id h => by rw [vfind_cons, if_neg (fun e => by have e : (1 : Int) = id := e; omega)]; rfl, by simp [newV], by simp [newV], rfl, rfl, by simp [newV], rfl, rfl, rfl, rfl, rfl, rfl, rfl, rfl, .z rfl⟩
theorem Dp.next {j : Nat} {M : List Vo} {x y : Vo} {c : Nat} {v : Value} (h : Dp j M x y) (hj : j < 16) :
    ∃ x' y', Dp (j + 1) (addM M (winV ((j : Int) + 1 + 1) (x.size - 64) ((j : Int) + 1) 64 (x.depth + 1) c) v) x' y' := by
  obtain ⟨X, hX⟩ : ∃ X, X = winV ((j : Int) + 1 + 1) (x.size - 64) ((j : Int) + 1) 64 (x.depth + 1) c := ⟨_, rfl⟩
  have hxs := h.xs
  have hvw := h.vw.win (id := (j : Int) + 1 + 1) (p := (j : Int) + 1) (size := x.size - 64) (a := 64) (c := c) (h.no _ (by omega)) h.x1 ⟨j, y, _, by omega, h.bs⟩ (by rw [h.xp]; omega) (by omega) (by omega)
  rw [← hX] at hvw ⊢
  have Xi : X.id = (j : Int) + 1 + 1 := by rw [hX]; rfl
  have Xp : X.parent = (j : Int) + 1 := by rw [hX]; rfl
  have hf1 : vfind (X :: M) ((j : Int) + 1) = some x := by rw [vfind_cons, if_neg (by omega)]; exact h.x1
  have eM : addM M X v = { x with cv := v, ch := x.ch ++ [X.id] } :: rmV ((j : Int) + 1) (X :: M) := by
    unfold addM
    rw [Xp, h.x1]
  rw [eM]
  have hfind := chV_find hf1 v (x.ch ++ [X.id])
  have hvw' := hvw.ch (cv := v) (ch := x.ch ++ [X.id]) hf1
  have hold : ∀ a z, vfind M a = some z → vfind (X :: M) a = some z := fun a z hz => by
    rw [vfind_cons, if_neg (fun e => ?_), hz]
    rw [← e, Xi, h.no _ (by omega)] at hz; cases hz
  have hXf : chV ((j : Int) + 1) v (x.ch ++ [X.id]) X = X := by
    unfold chV; rw [if_neg (by omega)]
  have hmem : ∀ z ∈ { x with cv := v, ch := x.ch ++ [X.id] } :: rmV ((j : Int) + 1) (X :: M), z = { x with cv := v, ch := x.ch ++ [X.id] } ∨ z = X ∨ z ∈ M := fun z hz => by
    rcases List.mem_cons.1 hz with rfl | hz
    · exact .inl rfl
    · rcases List.mem_cons.1 (rmv_mem.1 hz).1 with rfl | hz
      · exact .inr (.inl rfl)
      · exact .inr (.inr hz)
  refine ⟨X, chV ((j : Int) + 1) v (x.ch ++ [X.id]) y, hvw', ?_, fun id hid => ?_, fun z hz => ?_, fun z hz => ?_, ?_, by rw [hX]; rfl, ?_, ?_, by rw [hX]; rfl, by rw [hX]; simp [winV], ?_, ?_, ?_, ?_, ?_, ?_⟩
  · rw [setv_len (y := { x with cv := v, ch := x.ch ++ [X.id] }) hvw.nd hf1, List.length_cons, h.len]
  · rw [hfind, vfind_cons, if_neg (by omega), h.no id (by omega)]; rfl
  · rcases hmem z hz with rfl | rfl | hz
    · show (x.ch ++ [X.id]).length ≤ 1
      rw [h.xc]; simp
    · rw [hX]; simp [winV]
    · exact h.ch z hz
  · rcases hmem z hz with rfl | rfl | hz
    · show 0 ≤ x.depth ∧ x.depth ≤ 16
      rw [h.xp]; omega
    · rw [hX]
      show 0 ≤ x.depth + 1 ∧ x.depth + 1 ≤ 16
      rw [h.xp]; omega
    · exact h.dp z hz
  · rw [hfind, vfind_cons, if_pos (by rw [Xi]; omega), Option.map_some, hXf]
  · rw [hX]
    show x.size - 64 = _
    omega
  · rw [hX]
    show x.depth + 1 = _
    rw [h.xp]; omega
  · rw [hfind, hold _ _ h.y1]; rfl
  · rw [chV_key (fun x => x.dr) fun _ => rfl]; exact h.yd
  · rw [chV_key (fun x => x.sl) fun _ => rfl]; exact h.yl
  · rw [chV_key (fun x => x.size) fun _ => rfl]; exact h.ys
  · rw [chV_key (fun x => x.pl) fun _ => rfl]; exact h.yp
  · have hb : BaseN (X :: M) (j + 1) X y (64 + 64 * (j : Int)) := by
      have e : X.from_ = 64 := by rw [hX]; rfl
      have hb0 : BaseN (X :: M) (j + 1) X y (X.from_ + 64 * (j : Int)) := .s (by rw [hX]; rfl) (by rw [Xp]; exact hf1) (h.bs.mono hold)
      rwa [e] at hb0
    have hb2 := hb.map hfind (chV_key _ fun _ => rfl) (chV_key _ fun _ => rfl) (chV_key _ fun _ => rfl)
    rw [hXf] at hb2
    rw [show 64 * ((j + 1 : Nat) : Int) = 64 + 64 * (j : Int) from by omega]
    exact hb2
end Go.Proofs.Ytlcbfahjejgjlaa

set_option maxRecDepth 100000
set_option maxHeartbeats 8000000
namespace Go.Proofs.Ytlcbfahjejgjlaa
open Go Go.Jac
section
variable {w0 w : World} {L : List HP} {K : Value → WP} {b : Nat} {last most cap : Int} {F : List Fr} {M : List Vo} {x : Vo}
theorem VSnap_sl {id a n : Int} (h : VW cap F M) (hx : live M id = some x) (hs : x.sl = true) (hw : winOk x a n) (d : D w0 (Vs b last most cap F M :: L) w)
    (k : ∀ w', D w0 (Vs b last most cap F M :: L) w' → K (.tuple #[.int .i64 0, .int .i64 (-2)]) w') :
    Cl pg 13 #[.pointer (some ⟨b, 0, none⟩), .int .i64 id, .int .i64 a, .int .i64 n] K w := by
  refine V.vmo_Set_Snapshot_ok ?_
  unfold V.vmo_Set_Snapshot
  obtain ⟨m, pb, d⟩ := Vs.out d
  refine fn40 (fun _ _ => rfl) (window_ok h.nd h.sz d (fun hno e w he d => absurd hw (hno x hx)) fun x' hx' _ w d => ?_)
  rw [hx] at hx'
  obtain rfl := Option.some.inj hx'
  have hxl := live_some hx
  have d := vone_out h.nd hxl.1 (D.sel [3] d)
  have hv : vcell x = [.int .i64 x.size, .int .i64 x.parent, fmv x, x.cv, .bool true, .int .i64 x.from_, .int .i64 x.depth, .bool x.dr] := by unfold vcell; rw [hs]
  rw [hv] at d
  repeat (first | (simp +decide only [SEM]) | (apply ldm d; (focus ((repeat (first | exact .h _ | refine .t _ _ ?_)); done)); (focus rfl)))
  refine k w (Vs.mk (D.sel [1, 2, 3, 0] (vone_back h.nd hxl.1 (by rw [hv]; exact d))))
end
section
variable {w0 w : World} {K : Value → WP}
theorem vdeep_law {deep : Int} {sv : Value} (hdp : I64 deep) (hr : Rd pg w0 22 [sv]) (d : D w0 [Old w0] w) (k : ∀ w', D w0 [Old w0] w' → K (.bool true) w') :
    Cl pg 4 #[.int .i64 deep, sv] K w := by
  refine V.jacinthlaw08_VmoDeep_ok ?_
  unfold V.jacinthlaw08_VmoDeep
  have aw : ∀ {L' : List HP} {w : World} {K' : Value → WP}, D w0 L' w → (∀ w', D w0 L' w' → K' (.bool true) w') → FnV pg (.func (.func 9) #[] #[]) #[] K' w := fun d k => fn00 (fun _ _ => rfl) (awake_ok d k)
  obtain ⟨l, hlm, hs, -⟩ := bytes_of hr
  refine fn20 (fun _ _ => rfl) (VNew_ok (cap := 40) (n := 40) (by omega) (by omega) d fun b w d => ?_)
  have hd : FnV pg (.func (.func 9) #[] #[]) #[] K w := aw d fun w d => k w d.tail
  repeat (simp +decide only [SEM])
  refine ⟨fun _ => ⟨fun _ => ?_, fun _ => hd⟩, fun _ => hd⟩
  refine (hs _ _ (D.sel [1] d)).len ?_
  repeat (simp +decide only [SEM])
  refine ⟨fun _ => hd, fun hl64 => ?_⟩
  refine fn20 (fun _ _ => rfl) (VCreate_ok (n := 1920) (by omega) (VW.nil (cap := 40) (by omega)).nd (by simp) (by omega) rfl rfl (by simp) d fun fb c w d => ?_)
  have d : D w0 [Vs b 1 40 40 [] [newV 1 1920 fb c], Old w0] w := d
  rw [show (0 : Int) + 1 = 1 from rfl]
  repeat (simp +decide only [SEM])
  intro K' hK'
  have fin : ∀ (j : Nat) (M : List Vo) (x y : Vo) (w : World), Dp j M x y → 0 < j → j ≤ 16 → D w0 [Vs b ((j : Int) + 1) 40 40 [] M, Old w0] w → K' [.bool false, .int .i64 (j : Int), .int .i64 ((j : Int) + 1)] w := by
    intro j M x y w h h0 h16 d
    refine hK' _ _ fun _ => ?_
    clear hK' hd
    simp only [UN]
    have hlx : live M ((j : Int) + 1) = some x := by unfold live; rw [h.x1]; simp [h.xd]
    have hxs := h.xs
    have hyf := (h.vw.hasf 1 y h.y1).1 h.yl
    have hyi := (vfind_id h.y1).1
    refine fn40 (fun _ _ => rfl) (VWrite_ok (l := l) h.vw hs (D.sel [1] d) (fun e w he hno d => ?_) fun x' N y' yid t F' pl' w hx' hb' hy' _ _ _ hwr _ d => ?_)
    · exfalso
      rcases hno with hh | hh | ⟨x', hx', hh⟩ | ⟨x', N, y', t, hx', hb', hh⟩
      · rw [hlx] at hh; cases hh
      · omega
      · rw [hlx] at hx'
        obtain rfl := Option.some.inj hx'
        exact hh ⟨by omega, by omega, by omega⟩
      · rw [hlx] at hx'
        obtain rfl := Option.some.inj hx'
        obtain ⟨-, rfl, rfl⟩ := h.bs.uniq hb'
        have h1 := needF_le ([], y.pl) (pgL (64 * (j : Int) + 0) (l.length : Int))
        have h2 : (pgL (64 * (j : Int) + 0) (l.length : Int)).length ≤ 1 := by
          rw [pgL_len]; unfold pgN; split <;> omega
        rw [show usedF [] = 0 from rfl] at hh
        omega
    · rw [hlx] at hx'
      obtain rfl := Option.some.inj hx'
      obtain ⟨-, rfl, rfl⟩ := h.bs.uniq hb'
      obtain rfl : yid = 1 := by rw [← (vfind_id hy').1, hyi]
      have vw2 := h.vw.pl (pl := pl') h.y1 hyf hwr.ok hwr.kn hwr.ui
      obtain ⟨y2, hy2⟩ : ∃ y2 : Vo, y2 = { y with pl := pl' } := ⟨_, rfl⟩
      have y2p : y2.pl = pl' := by rw [hy2]
      have y2i : y2.id = 1 := by rw [hy2]; exact hyi
      have y2d : y2.dr = false := by rw [hy2]; exact h.yd
      have y2l : y2.sl = false := by rw [hy2]; exact h.yl
      have y2s : y2.size = 1920 := by rw [hy2]; exact h.ys
      rw [← hy2] at vw2 d
      have hl1 : live (y2 :: rmV 1 M) 1 = some y2 := by unfold live; rw [vfind_upd y2i, if_pos rfl]; simp [y2d]
      have hl2 : live (y2 :: rmV 1 M) ((j : Int) + 1) = some x := by unfold live; rw [vfind_upd y2i, if_neg (by omega), h.x1]; simp [h.xd]
      repeat (simp +decide only [SEM])
      refine (hs _ _ (D.sel [0] d)).len ?_
      rw [show IntKind.i64.wrap (64 * (j : Int)) = 64 * (j : Int) from w64 (by omega) (by omega)]
      refine fn40 (fun _ _ => rfl) (VRead_ok vw2 (D.sel [1] d) (fun e w he hno d => ?_) fun x' N y' yid t sv2 w hx' hb' hy' _ _ _ d => ?_)
      · exfalso
        rcases hno with hh | hh | hh | ⟨x', hx', hh⟩
        · rw [hl1] at hh; cases hh
        · omega
        · omega
        · rw [hl1] at hx'
          obtain rfl := Option.some.inj hx'
          exact hh ⟨by omega, by omega, by omega, by omega⟩
      · rw [hl1] at hx'
        obtain rfl := Option.some.inj hx'
        obtain ⟨-, rfl, rfl⟩ := hb'.flat y2l
        have hsub : sub (byt F' y'.pl) (0 + 64 * (j : Int)).toNat ((l.length : Int)).toNat = l := by
          rw [y2p]
          apply List.ext_getElem
          · simp [sub]
          · intro i h1 h2
            have e : (64 * (j : Int) + 0).toNat = (0 + 64 * (j : Int)).toNat := by omega
            simp only [sub, List.getElem_map, List.getElem_range]
            rw [hwr.byt, e, if_pos (by omega), show (0 + 64 * (j : Int)).toNat + i - (0 + 64 * (j : Int)).toNat = i by omega, List.getElem?_eq_getElem h2]
            rfl
        rw [hsub, Int.toNat_natCast] at d
        repeat (simp +decide only [SEM])
        refine fn40 (fun _ _ => rfl) (VSnap_sl vw2 hl2 (by rw [h.xl]; simp [h0]) ⟨by omega, by omega, by omega, by omega, by omega, by omega⟩ (D.sel [1] d) fun w d => ?_)
        repeat (simp +decide only [SEM])
        refine fn20 (fun _ _ => rfl) (Same_ok (seesB_rw _ _ (D.sel [1] d)) (hs _ _ (D.sel [2] d)) ?_)
        repeat (simp +decide only [SEM])
        exact aw (D.sel [2] d) fun w d => k w d.tail2.tail2
  refine ⟨fun vs w' => ∃ (j : Nat) (M : List Vo) (x y : Vo), vs = [.bool false, .int .i64 (j : Int), .int .i64 ((j : Int) + 1), .int .i64 (j : Int)] ∧ (j : Int) ≤ deep ∧ j ≤ 16 ∧ Dp j M x y ∧ D w0 [Vs b ((j : Int) + 1) 40 40 [] M, Old w0] w',
    fun vs _ => match vs with | [_, _, _, .int _ i] => 20 - i.toNat | _ => 0, ⟨0, _, _, _, rfl, by omega, by omega, Dp.zero, d⟩, ?_⟩
  clear d hd hK'
  rintro _ w ⟨j, M, x, y, rfl, hj, h16, h, d⟩ _ 
  simp only [UN]
  have hlx : live M ((j : Int) + 1) = some x := by unfold live; rw [h.x1]; simp [h.xd]
  have hxs := h.xs
  have hxp := h.xp
  repeat (simp +decide only [SEM])
  refine ⟨fun hlt => ?_, fun hge => fin j M x y w h (by omega) h16 d⟩
  refine fn20 (fun _ _ => rfl) (VInfo_ok h.vw.nd h.x1 (h.vw.hasf _ _ h.x1).2 d fun w d => ?_)
  repeat (first | (simp +decide only [SEM]) | (apply ldm d; (focus ((repeat (first | exact .h _ | refine .t _ _ ?_)); done)); (focus rfl)) | (refine d_new _ d fun bn w d => ?_) | (apply swm d; (focus ((repeat (first | exact .h _ | apply Rp.t)); done)); (focus rfl); (focus rfl); (focus exact ones rfl); intro w d; simp only [SPL] at d))
  rw [show IntKind.i64.wrap (x.size - 64) = x.size - 64 from w64 (by omega) (by omega)]
  have hwin : winOk x 64 (x.size - 64) := ⟨by omega, by omega, by omega, by omega, by omega, by omega⟩
  refine fn40 (fun _ _ => rfl) (VSlice_ok h.vw.nd h.vw.sz (fun z hz => by have := h.dp z hz; omega) (by omega) (h.no _ (by omega)) (fun z hz => by have := h.ch z hz; omega) (D.sel [1] d) (fun hno e w he d => ?_) (fun x' hx' _ hdd w d => ?_) fun x' hx' _ hdd _ v c w d => ?_)
  · exfalso
    rcases hno with hh | hh
    · exact hh x hlx hwin
    · rw [h.len] at hh; omega
  · rw [hlx] at hx'
    obtain rfl := Option.some.inj hx'
    obtain rfl : j = 16 := by omega
    repeat (simp +decide only [SEM])
    exact fin 16 M x y w h (by omega) h16 d.tail2
  · rw [hlx] at hx'
    obtain rfl := Option.some.inj hx'
    repeat (simp +decide only [SEM])
    refine ⟨fun h16 => by omega, fun _ => ?_⟩
    skip
    obtain ⟨x', y', h'⟩ := h.next (c := c) (v := v) (by omega)
    rw [show IntKind.i64.wrap ((j : Int) + 1) = ((j + 1 : Nat) : Int) from by rw [w64 (by omega) (by omega)]; simp]
    refine ⟨⟨j + 1, _, x', y', by simp, by omega, by omega, h', d.tail2⟩, by omega⟩
end
end Go.Proofs.Ytlcbfahjejgjlaa

set_option maxRecDepth 100000
set_option maxHeartbeats 800000
namespace Go.Proofs.Ytlcbfahjejgjlaa
open Go Go.Jac
theorem Ext_10 {a : Value} {K : Value → WP} {w : World} : Ext (.tuple #[a]) 0 K w = K a w := propext Iff.rfl
section
variable {w0 w : World} {L : List HP} {K : Value → WP} {b m n : Nat} {g : Int → Option Value}
theorem AppSeq_ok {c : Nat} (hn : n ≤ 100000000000) (d : D w0 (cel c 63 [.map (some m)] :: Mp m g n :: L) w)
    (k : ∀ (S : List Int) sv w', S.Nodup → (∀ x, x ∈ S ↔ (g x).isSome = true) → D w0 (Rw 3 1 sv S.length (S.flatMap nI) :: Mp m g n :: L) w' → K sv w') :
    Cl pg 63 #[.slice none 0 0, .func (.func 58) #[] #[.pointer (some ⟨c, 0, none⟩)]] K w := by
  refine V.slices_AppendSeq_int_int_ok ?_
  unfold V.slices_AppendSeq_int_int
  simp only [cells_sl]
  refine d_new _ d fun bo w d => ?_
  refine d_rf0 (fun _ _ => rfl) d fun dm l r0 w hr hp hro d => ?_
  refine V.maps_Keys_c1_map_int_int_int_int_ok ?_
  unfold V.maps_Keys_c1_map_int_int_int_int
  repeat (first | (simp +decide only [SEM]) | (apply ldm d; (focus ((repeat (first | exact .h _ | refine .t _ _ ?_)); done)); (focus rfl)))
  have d := D.sel [4, 0, 2, 3, 1] d
  refine srange_ok Try.underlying63 d fun r mm w d => ?_
  have d0 : D w0 (Rw 3 1 (.slice none 0 0) (List.length ([] : List Int)) (([] : List Int).flatMap nI) :: _) w := ⟨Rw.nil _ _ d.1, d.2⟩
  have d := D.sel [1, 0, 2, 3, 4, 5] d0
  clear d0
  refine ⟨fun vs w => ∃ (S : List Int) (sv : Value) (mm : Nat) (Q : Int → Prop) (cur : Option (Int × Value)), vs = [] ∧ S.Nodup ∧ (∀ x, Q x ↔ x ∈ S) ∧ (∀ x ∈ S, (g x).isSome = true) ∧
    D w0 (Mis r m g n mm Q cur :: Rw 3 1 sv S.length (S.flatMap nI) :: pts l (.loop r0) :: cel bo 49 [sv] :: cel c 63 [.map (some m)] :: pts dm (.deferred (some [])) :: L) w, fun _ w => mitLeft r m w, ⟨[], _, mm, _, none, rfl, by simp, by simp, by simp, d⟩, ?_⟩
  clear d
  rintro _ w ⟨S, sv, mm, Q, cur, rfl, hnd, hQ, hS, d⟩ _
  dsimp only
  rw [Mis.left_eq d]
  obtain ⟨q4, c4, rfl, -⟩ := Rw.shape d.swap.1
  refine snextN_ok d (fun hall w d => ?_) fun m' kk v w hm' hnq hv d => ?_
  · rw [Ext_10]
    repeat (simp +decide only [SEM])
    refine ⟨r0, _, D.sel [2] d, sameLp.refl r0, by rw [hr]; simp, fun w d => ?_⟩
    rw [hp]
    simp only [JumpC]
    repeat (apply ldm d; (focus ((repeat (first | exact .h _ | refine .t _ _ ?_)); done)); (focus rfl))
    refine d_lv1 (D.sel [4] d) fun w d => ?_
    refine k S _ w hnd (fun x => ⟨hS x, fun hx => ?_⟩) ?_
    · obtain ⟨v, hv⟩ := Option.isSome_iff_exists.1 hx
      exact (hQ x).1 (hall x v hv)
    · exact D.swap (Mis.map (D.sel [2, 3] d).tail.tail)
  · repeat (simp +decide only [SEM])
    refine sentry_ok d ?_
    repeat (simp +decide only [SEM])
    have hlen : S.length ≤ n := mp_card (Mis.map d) hnd hS
    refine y_ok (args := [.int .i64 kk]) hro (D.sel [2] d) ?_
    simp only [UN, UNe]
    refine d_beg (D.sel [2] d) hr fun w d => ?_
    repeat (first | (apply ldm d; (focus ((repeat (first | exact .h _ | refine .t _ _ ?_)); done)); (focus rfl)) | refine bsl1 (by first | rfl | (simp only [cells_agg, cells_int, cells_bool, cells_ptr, cells_sl, cells_map, cells_fn, List.drop_succ_cons, List.drop_zero, List.take_succ_cons, List.take_zero, Nat.zero_add, Nat.reduceAdd, Int.toNat_natCast, Int.toNat_zero]; rfl)) rfl d (by decide) (by decide) fun bn w d => ?_)
    refine d_app (m := 1) (D.sel [3] d) (src_of (gc1 (D.sel [3] d)) rfl (ones rfl) 1) rfl (by omega) (by omega) (by omega) (ones rfl) fun sv'' w d => ?_
    obtain ⟨q5, c5, rfl, -⟩ := Rw.shape d.1
    repeat (apply swm d; (focus ((repeat (first | exact .h _ | apply Rp.t)); done)); (focus rfl); (focus rfl); (focus exact ones rfl); intro w d; simp only [SPL] at d)
    refine d_end0 (D.sel [2] d) fun w d => ?_
    rw [loop_eta hr hp] at d
    repeat (simp +decide only [SEM])
    have hkS : kk ∉ S := fun h => hnq ((hQ kk).2 h)
    have e1 : (S ++ [kk]).length = S.length + 1 := by simp
    have e2 : (S ++ [kk]).flatMap nI = S.flatMap nI ++ [.int .i64 kk] := by rw [List.flatMap_append, List.flatMap_singleton]; rfl
    have d : D w0 (Mis r m g n m' (fun x => x = kk ∨ Q x) (some (kk, v)) :: Rw 3 1 (.slice q5 (S.length + 1) c5) (S ++ [kk]).length ((S ++ [kk]).flatMap nI) :: pts l (.loop r0) :: cel bo 49 [.slice q5 (S.length + 1) c5] :: cel c 63 [.map (some m)] :: pts dm (.deferred (some [])) :: L) w := by
      rw [e1, e2]
      exact (D.sel [2, 3, 1, 0] d).tail
    refine ⟨⟨S ++ [kk], _, m', _, _, ?_, ?_, ?_, d⟩, by rw [Mis.left_eq d]; exact hm'⟩
    · rw [List.nodup_append]
      exact ⟨hnd, by simp, fun a ha b hb e => hkS (by rw [List.mem_singleton.1 hb] at e; rw [← e]; exact ha)⟩
    · intro x
      rw [List.mem_append, List.mem_singleton, hQ x]
      exact Or.comm
    · intro x hx
      rcases List.mem_append.1 hx with h | h
      · exact hS x h
      · rw [List.mem_singleton.1 h, hv]; rfl
theorem Sorted_ok {c : Nat} (hn : n ≤ 100000000000) (d : D w0 (cel c 63 [.map (some m)] :: Mp m g n :: L) w)
    (k : ∀ (S : List Int) sv w', S.Nodup → S.Pairwise (· ≤ ·) → (∀ x, x ∈ S ↔ (g x).isSome = true) → D w0 (Rw 3 1 sv S.length (S.flatMap nI) :: Mp m g n :: L) w' → K sv w') :
    Cl pg 40 #[.func (.func 58) #[] #[.pointer (some ⟨c, 0, none⟩)]] K w := by
  refine V.slices_Sorted_int_ok ?_
  unfold V.slices_Sorted_int
  refine fn10 (fun _ _ => rfl) (V.slices_Collect_int_ok ?_)
  unfold V.slices_Collect_int
  refine fn20 (fun _ _ => rfl) (AppSeq_ok hn d fun S sv w hnd hS d => ?_)
  have hlen : S.length ≤ n := mp_card d.swap hnd fun x hx => (hS x).1 hx
  refine fn10 (fun _ _ => rfl) (isort_k (K := fun _ w => K sv w) iLay (by omega) d fun w d => ?_)
  exact k _ sv w ((srt_perm S).nodup_iff.2 hnd) (srt_up S) (fun x => srt_mem.trans (hS x)) d
end
/-- What holds while pages are taken away, whoever else uses their frames. -/
structure RG (R : Nat → Nat) (cap : Int) (F : List Fr) (pl : PL) (P : Int → Prop) (F1 : List Fr) (pl1 : PL) : Prop where
  ui : UI R F1 pl1
  kn : Kn pl1
  ok : Pok cap F1
  gone : ∀ q, P q → look pl1 q = none
  kept : ∀ q, ¬ P q → look pl1 q = look pl q
  dat : ∀ f, (fr F1 f).data = (fr F f).data
theorem RG.nil {R : Nat → Nat} {cap : Int} {F : List Fr} {pl : PL} (ui : UI R F pl) (kn : Kn pl) (ok : Pok cap F) : RG R cap F pl (fun _ => False) F pl :=
  ⟨ui, kn, ok, fun _ h => h.elim, fun _ _ => rfl, fun _ => rfl⟩
theorem RG.no {R : Nat → Nat} {cap : Int} {F F1 : List Fr} {pl pl1 : PL} {P : Int → Prop} {p : Int} (h : RG R cap F pl P F1 pl1) (hl : look pl1 p = none) : RG R cap F pl (fun q => P q ∨ q = p) F1 pl1 :=
  ⟨h.ui, h.kn, h.ok, fun q hq => by
    rcases hq with hq | rfl
    · exact h.gone q hq
    · exact hl, fun q hq => h.kept q fun hp => hq (.inl hp), h.dat⟩
theorem RG.yes {R : Nat → Nat} {cap : Int} {F F1 : List Fr} {pl pl1 : PL} {P : Int → Prop} {p : Int} {f : Nat} (h : RG R cap F pl P F1 pl1) (hl : look pl1 p = some f) : RG R cap F pl (fun q => P q ∨ q = p) (F1.set f ⟨(fr F1 f).data, (fr F1 f).users - 1⟩) (delP pl1 p) := by
  have hu := h.ui.live hl
  have hf := fr_lt (F := F1) (i := f) (by omega)
  obtain ⟨h1, h2⟩ := del_parts h.kn hl
  refine ⟨fun g => ?_, h.kn.del p, ⟨h.ok.mo, by rw [List.length_set]; exact h.ok.len, fun x hx => ?_⟩, fun q hq => ?_, fun q hq => ?_, fun g => ?_⟩
  · rw [fr_set hf]
    have e1 := h.ui g
    have e2 := h2 g
    by_cases e : g = f
    · subst e
      rw [if_pos rfl] at e2 ⊢
      show (fr F1 g).users - 1 = _
      omega
    · rw [if_neg e]
      rw [if_neg (fun e' => e e'.symm)] at e2
      omega
  · rcases List.mem_or_eq_of_mem_set hx with hx | rfl
    · exact h.ok.us x hx
    · have := h.ok.us _ (List.getElem_mem hf)
      rw [← fr_get hf] at this
      show 0 ≤ (fr F1 f).users - 1 ∧ (fr F1 f).users - 1 ≤ 1000000
      omega
  · rw [look_del]
    split
    · rfl
    · rename_i hne
      rcases hq with hq | hq
      · exact h.gone q hq
      · exact absurd hq hne
  · rw [look_del, if_neg (fun e => hq (.inr e))]
    exact h.kept q fun hp => hq (.inl hp)
  · rw [fr_set hf]
    split
    · rename_i e; subst e; exact h.dat _
    · exact h.dat g
theorem RG.to {R : Nat → Nat} {cap : Int} {F F1 : List Fr} {pl pl1 : PL} {P Q : Int → Prop} (h : RG R cap F pl P F1 pl1) (hq : ∀ q, P q ↔ Q q) : RG R cap F pl Q F1 pl1 :=
  ⟨h.ui, h.kn, h.ok, fun q hh => h.gone q ((hq q).2 hh), fun q hh => h.kept q fun hp => hh ((hq q).1 hp), h.dat⟩
theorem RG.as {R : Nat → Nat} {cap : Int} {F F1 : List Fr} {pl pl1 : PL} {P Q : Int → Prop} (h : RG R cap F pl P F1 pl1) (hpq : ∀ q, P q → Q q) (hq : ∀ q, Q q → ¬ P q → look pl q = none) : RG R cap F pl Q F1 pl1 :=
  ⟨h.ui, h.kn, h.ok, fun q hh => by
    by_cases hp : P q
    · exact h.gone q hp
    · rw [h.kept q hp]; exact hq q hh hp, fun q hh => h.kept q fun hp => hh (hpq q hp), h.dat⟩
theorem byt_rg {R : Nat → Nat} {cap c : Int} {F F1 : List Fr} {pl pl1 : PL} (h : RG R cap F pl (fun q => c ≤ q) F1 pl1) (i : Nat) : byt F1 pl1 i = if c ≤ ((i / 64 : Nat) : Int) then 0 else byt F pl i := by
  unfold byt
  by_cases hc : c ≤ ((i / 64 : Nat) : Int)
  · rw [h.gone _ hc, if_pos hc]
  · rw [h.kept _ hc, if_neg hc]
    cases look pl ((i / 64 : Nat) : Int) with
    | none => rfl
    | some f => simp only [h.dat f]
/-- Another size, another table. -/
def spV (id s : Int) (pl : PL) (x : Vo) : Vo := if x.id = id then { x with size := s, pl := pl } else x
theorem spV_find {M : List Vo} {id : Int} {y : Vo} (hy : vfind M id = some y) (s : Int) (pl : PL) (a : Int) : vfind ({ y with size := s, pl := pl } :: rmV id M) a = (vfind M a).map (spV id s pl) := by
  rw [vfind_upd (y := { y with size := s, pl := pl }) (vfind_id hy).1]
  split
  · rename_i e
    subst e
    rw [hy]
    simp [spV, (vfind_id hy).1]
  · rename_i e
    cases hz : vfind M a with
    | none => rfl
    | some z =>
      have := (vfind_id hz).1
      simp only [Option.map_some, spV]
      rw [if_neg (by rw [this]; exact e)]
theorem VW.sp {cap : Int} {F F' : List Fr} {M : List Vo} {id s : Int} {y : Vo} {pl : PL} (h : VW cap F M) (hy : vfind M id = some y) (hf : y.hasf = true) (hs : 0 ≤ s ∧ s ≤ 4294967296) (ok : Pok cap F') (kn : Kn pl) (ui : UI (tot (rmV id M)) F' pl) : VW cap F' ({ y with size := s, pl := pl } :: rmV id M) := by
  have key : ∀ x, ∀ {α : Type} (g : Vo → α), (∀ x : Vo, g { x with size := s, pl := pl } = g x) → g (spV id s pl x) = g x := fun x α g hg => by
    unfold spV; split
    · exact hg x
    · rfl
  refine h.map (f := spV id s pl) (spV_find hy s pl) (h.nd.upd (x := y) (y := { y with size := s, pl := pl }) (vfind_id hy).1) (fun x => key x _ fun _ => rfl) (fun x => key x _ fun _ => rfl) (fun x => key x _ fun _ => rfl) (fun a x hx => ?_) (fun x => key x _ fun _ => rfl) (fun x => key x _ fun _ => rfl) ok (fun a x hx => ?_) (fun a x hx e e2 => ?_) fun i => ?_
  · unfold spV; split
    · exact hs
    · exact h.sz x (vfind_id hx).2
  · unfold spV; split
    · exact kn
    · exact h.kn a x hx
  · unfold spV; split
    · rename_i e3
      have ha := (vfind_id hx).1
      rw [show a = id from by rw [← ha, e3], hy] at hx
      obtain rfl := Option.some.inj hx
      rw [hf] at e; cases e
    · exact e2
  · rw [ui i, tot_cons]
    show _ = ((cnt pl i + tot (rmV id M) i : Nat) : Int)
    omega
section
variable {w0 w : World} {L : List HP} {K : Value → WP} {b : Nat} {last most cap : Int} {F : List Fr} {M : List Vo} {x : Vo}
theorem cfun_nil {q : Option Addr} {c : Nat} {g : Value} (k : K (.bool false) w) : Cl pg 38 #[.slice q 0 c, g] K w := by
  refine V.slices_ContainsFunc_int_int_ok ?_
  unfold V.slices_ContainsFunc_int_int
  refine fn20 (fun _ _ => rfl) (V.slices_IndexFunc_int_int_ok ?_)
  unfold V.slices_IndexFunc_int_int
  simp only [LenS_s]
  refine ⟨fun vs w' => vs = [.int .i64 0, .int .i64 0] ∧ w' = w, fun _ _ => 0, ⟨rfl, rfl⟩, ?_⟩
  rintro _ _ ⟨rfl, rfl⟩ _
  simp only [UN]
  repeat (simp +decide only [SEM])
  exact k
theorem VRes_no {id n : Int} (h : VW cap F M) (hx : live M id = some x) (hb : ¬ (0 ≤ n ∧ n ≤ 4294967296)) (d : D w0 (Vs b last most cap F M :: L) w)
    (k : ∀ e w', e ≠ 0 → D w0 (Vs b last most cap F M :: L) w' → K (.int .i64 e) w') :
    Cl pg 21 #[.pointer (some ⟨b, 0, none⟩), .int .i64 id, .int .i64 n] K w := by
  refine V.vmo_Set_Resize_ok ?_
  unfold V.vmo_Set_Resize
  simp only [cells_ptr]
  refine d_new _ d fun bo w d => ?_
  obtain ⟨m, pb, d⟩ := Vs.out d.swap
  repeat (apply ldm d; (focus ((repeat (first | exact .h _ | refine .t _ _ ?_)); done)); (focus rfl))
  refine fn20 (fun _ _ => rfl) (vfind_ok h.nd d (fun hno w d => by rw [hno] at hx; cases hx) fun x' hx' w d => ?_)
  repeat (simp +decide only [SEM])
  refine fn10 (fun _ _ => rfl) (size_ok (fun hl => ?_) (fun hl => ?_) fun h1 h2 => absurd ⟨h1, h2⟩ hb)
  · repeat (simp +decide only [SEM])
    exact k _ w (by decide) (Vs.mk (D.sel [0, 1, 2, 3, 4] d)).tail2
  · repeat (simp +decide only [SEM])
    exact k _ w (by decide) (Vs.mk (D.sel [0, 1, 2, 3, 4] d)).tail2
theorem VRes_ok {id n : Int} (h : VW cap F M) (hx : live M id = some x) (hs : x.sl = false) (hc : x.ch = []) (hb : 0 ≤ n ∧ n ≤ 4294967296) (hpl : x.pl.length ≤ 1000000) (d : D w0 (Vs b last most cap F M :: L) w)
    (k : ∀ F' pl' w', RG (tot (rmV id M)) cap F x.pl (fun q => (n + 63) / 64 ≤ q) F' pl' → D w0 (Vs b last most cap F' ({ x with size := (n + 63) / 64 * 64, pl := pl' } :: rmV id M) :: L) w' → K (.int .i64 0) w') :
    Cl pg 21 #[.pointer (some ⟨b, 0, none⟩), .int .i64 id, .int .i64 n] K w := by
  refine V.vmo_Set_Resize_ok ?_
  unfold V.vmo_Set_Resize
  simp only [cells_ptr]
  refine d_new _ d fun bo w d => ?_
  obtain ⟨m, pb, d⟩ := Vs.out d.swap
  have hxl := live_some hx
  have hyf := (h.hasf id x hxl.1).1 hs
  repeat (apply ldm d; (focus ((repeat (first | exact .h _ | refine .t _ _ ?_)); done)); (focus rfl))
  refine fn20 (fun _ _ => rfl) (vfind_ok h.nd d (fun hno w d => by rw [hno] at hx; cases hx) fun x' hx' w d => ?_)
  rw [hx] at hx'
  obtain rfl := Option.some.inj hx'
  repeat (simp +decide only [SEM])
  refine fn10 (fun _ _ => rfl) (size_ok (fun hl => by omega) (fun hl => by omega) fun _ _ => ?_)
  repeat (simp +decide only [SEM])
  obtain ⟨q, c, hq, -⟩ : ∃ q c, x.cv = .slice q 0 c ∧ True := by
    have d := vone_out h.nd hxl.1 (D.sel [3] d)
    obtain ⟨q, c, hq, -⟩ := Rw.shape d.swap.1
    rw [hc] at hq
    exact ⟨q, c, hq, trivial⟩
  have d : D w0 (cel x.blk 65 (.int .i64 x.size :: .int .i64 x.parent :: .map (some x.fb) :: [.slice q 0 c, .bool false, .int .i64 x.from_, .int .i64 x.depth, .bool x.dr]) :: Rw 3 1 (.slice q 0 c) 0 [] :: Mp x.fb (fgM x.pl) x.pl.length :: sat ((rmV id M).map vob) :: cel b 60 [.pointer (some ⟨pb, 0, none⟩), .map (some m), .int .i64 most, .int .i64 last] :: Pl pb cap F :: Mp m (vmap M) M.length :: cel bo 25 [.pointer (some ⟨b, 0, none⟩)] :: L) w := by
    have d := vone_out h.nd hxl.1 (D.sel [3] d)
    rw [vcell_f hyf, fmp_f hyf, hs, hq, hc] at d
    exact d
  repeat (first | (simp +decide only [SEM]) | (apply ldm d; (focus ((repeat (first | exact .h _ | refine .t _ _ ?_)); done)); (focus rfl)))
  refine fn20 (fun _ _ => rfl) (cfun_nil ?_)
  repeat (first | (simp +decide only [SEM]) | (apply ldm d; (focus ((repeat (first | exact .h _ | refine .t _ _ ?_)); done)); (focus rfl)) | (apply stm d; (focus ((repeat (first | exact .h _ | apply Rp.t)); done)); (focus rfl); (focus simp); (focus exact ones rfl); intro w d; simp only [SPL] at d))
  refine fn10 (fun _ _ => rfl) (V.maps_Keys_map_int_int_int_int_ok ?_)
  unfold V.maps_Keys_map_int_int_int_int
  simp only [cells_map]
  refine d_new _ d fun c1 w d => ?_
  refine fn10 (fun _ _ => rfl) (Sorted_ok (Nat.le_trans hpl (by decide)) (D.sel [0, 3] d) fun S sv w hnd hup hS d => ?_)
  refine len_rw (D.sel [0] d) ?_
  have hlen : S.length ≤ 1000000 := Nat.le_trans (mp_card d.swap hnd fun x hx => (hS x).1 hx) hpl
  obtain ⟨up, hup2⟩ : ∃ up, up = (n + 63) / 64 * 64 := ⟨_, rfl⟩
  have e5 : ∀ pl1, vmap ({ x with size := up, pl := pl1 } :: rmV id M) = vmap M := fun pl1 => vmap_set (y := { x with size := up, pl := pl1 }) hxl.1 (vfind_id hxl.1).1 rfl
  have e6 : ∀ pl1, ({ x with size := up, pl := pl1 } :: rmV id M).length = M.length := fun pl1 => setv_len (y := { x with size := up, pl := pl1 }) h.nd hxl.1
  rw [← hup2] at d k ⊢
  refine ⟨fun vs w' => ∃ (i : Nat) (F1 : List Fr) (pl1 : PL), vs = [.int .i64 i] ∧ i ≤ S.length ∧ RG (tot (rmV id M)) cap F x.pl (fun q => q ∈ S.take i ∧ (n + 63) / 64 ≤ q) F1 pl1 ∧
      D w0 (cel x.blk 65 (.int .i64 up :: .int .i64 x.parent :: .map (some x.fb) :: [.slice q 0 c, .bool false, .int .i64 x.from_, .int .i64 x.depth, .bool x.dr]) :: Mp x.fb (fgM pl1) pl1.length :: Pl pb cap F1 :: cel b 60 [.pointer (some ⟨pb, 0, none⟩), .map (some m), .int .i64 most, .int .i64 last] :: Rw 3 1 sv S.length (S.flatMap nI) :: Rw 3 1 (.slice q 0 c) 0 [] :: sat ((rmV id M).map vob) :: Mp m (vmap M) M.length :: cel bo 25 [.pointer (some ⟨b, 0, none⟩)] :: L) w',
    fun vs _ => match vs with | [.int _ i] => S.length - i.toNat | _ => 0, ⟨0, F, x.pl, rfl, by omega, (RG.nil (h.uiR hxl.1) (h.kn _ _ hxl.1) h.ok).to (fun q => by simp), D.sel [2, 1, 6, 5, 0, 3, 4] d⟩, ?_⟩
  clear d
  rintro _ w ⟨i, F1, pl1, rfl, hi, hri, d⟩ _
  simp only [UN]
  repeat (simp +decide only [SEM])
  refine ⟨fun hlt => ?_, fun hge => ?_⟩
  · have hlt' : i < S.length := by omega
    refine rw_el1 (S := S) (f := nI) d (.t _ _ (.t _ _ (.t _ _ (.t _ _ (.h _))))) nI_len hlt' (v := .int .i64 S[i]) rfl ?_
    have e7 : ∀ q, q ∈ S.take (i + 1) ↔ q ∈ S.take i ∨ q = S[i] := fun q => by
      rw [List.take_succ_eq_append_getElem hlt', List.mem_append, List.mem_singleton]
    have hw1 : IntKind.i64.wrap ((i : Int) + 1) = i + 1 := w64 (by omega) (by omega)
    have hq1 : up.tdiv 64 = (n + 63) / 64 := by rw [Int.tdiv_eq_ediv_of_nonneg (by omega)]; omega
    have hq2 : IntKind.i64.wrap ((n + 63) / 64) = (n + 63) / 64 := w64 (by omega) (by omega)
    repeat (simp +decide only [SEM])
    rw [hq1, hq2]
    have next : ∀ F2 pl2 w, RG (tot (rmV id M)) cap F x.pl (fun q => q ∈ S.take (i + 1) ∧ (n + 63) / 64 ≤ q) F2 pl2 → D w0 (cel x.blk 65 (.int .i64 up :: .int .i64 x.parent :: .map (some x.fb) :: [.slice q 0 c, .bool false, .int .i64 x.from_, .int .i64 x.depth, .bool x.dr]) :: Mp x.fb (fgM pl2) pl2.length :: Pl pb cap F2 :: cel b 60 [.pointer (some ⟨pb, 0, none⟩), .map (some m), .int .i64 most, .int .i64 last] :: Rw 3 1 sv S.length (S.flatMap nI) :: Rw 3 1 (.slice q 0 c) 0 [] :: sat ((rmV id M).map vob) :: Mp m (vmap M) M.length :: cel bo 25 [.pointer (some ⟨b, 0, none⟩)] :: L) w →
        (∃ (i' : Nat) (F1 : List Fr) (pl1 : PL), [Value.int .i64 ((i : Int) + 1)] = [.int .i64 i'] ∧ i' ≤ S.length ∧ RG (tot (rmV id M)) cap F x.pl (fun q => q ∈ S.take i' ∧ (n + 63) / 64 ≤ q) F1 pl1 ∧
      D w0 (cel x.blk 65 (.int .i64 up :: .int .i64 x.parent :: .map (some x.fb) :: [.slice q 0 c, .bool false, .int .i64 x.from_, .int .i64 x.depth, .bool x.dr]) :: Mp x.fb (fgM pl1) pl1.length :: Pl pb cap F1 :: cel b 60 [.pointer (some ⟨pb, 0, none⟩), .map (some m), .int .i64 most, .int .i64 last] :: Rw 3 1 sv S.length (S.flatMap nI) :: Rw 3 1 (.slice q 0 c) 0 [] :: sat ((rmV id M).map vob) :: Mp m (vmap M) M.length :: cel bo 25 [.pointer (some ⟨b, 0, none⟩)] :: L) w) ∧ S.length - ((i : Int) + 1).toNat < S.length - (i : Int).toNat := fun F2 pl2 w h2 d => ⟨⟨i + 1, F2, pl2, by simp, by omega, h2, d⟩, by omega⟩
    refine ⟨fun hle => ?_, fun hle => ?_⟩
    · repeat (apply ldm d; (focus ((repeat (first | exact .h _ | refine .t _ _ ?_)); done)); (focus rfl))
      refine fn30 (fun _ _ => rfl) (release_ok hri.kn (fun f hf => by
        have h1 := hri.ui.live hf
        have hf2 := fr_lt (F := F1) (i := f) (by omega)
        have := hri.ok.us _ (List.getElem_mem hf2)
        rw [← fr_get hf2] at this
        omega) (by have := hri.ok.len; have := hri.ok.mo; omega) d (fun hno w d => ?_) fun f hf w d => ?_)
      · repeat (simp +decide only [SEM])
        rw [hw1]
        exact next F1 pl1 w ((hri.no hno).to fun q => by rw [e7]; constructor
                                                         · rintro (⟨h1, h2⟩ | rfl)
                                                           · exact ⟨.inl h1, h2⟩
                                                           · exact ⟨.inr rfl, hle⟩
                                                         · rintro ⟨h1 | h1, h2⟩
                                                           · exact .inl ⟨h1, h2⟩
                                                           · exact .inr h1) d
      · repeat (simp +decide only [SEM])
        rw [hw1]
        exact next _ _ w ((hri.yes hf).to fun q => by rw [e7]; constructor
                                                      · rintro (⟨h1, h2⟩ | rfl)
                                                        · exact ⟨.inl h1, h2⟩
                                                        · exact ⟨.inr rfl, hle⟩
                                                      · rintro ⟨h1 | h1, h2⟩
                                                        · exact .inl ⟨h1, h2⟩
                                                        · exact .inr h1) d
    · skip
      rw [hw1]
      exact next F1 pl1 w (hri.to fun q => by rw [e7]; constructor
                                              · rintro ⟨h1, h2⟩
                                                exact ⟨.inl h1, h2⟩
                                              · rintro ⟨h1 | h1, h2⟩
                                                · exact ⟨h1, h2⟩
                                                · rw [h1] at h2; omega) d
  · rw [List.take_of_length_le (by omega)] at hri
    have hv2 : vcell { x with size := up, pl := pl1 } = .int .i64 up :: .int .i64 x.parent :: .map (some x.fb) :: [.slice q 0 c, .bool false, .int .i64 x.from_, .int .i64 x.depth, .bool x.dr] := by
      rw [← hs, ← hq]; exact vcell_f (y := { x with size := up, pl := pl1 }) hyf
    have hf2 : fmp { x with size := up, pl := pl1 } = Mp x.fb (fgM pl1) pl1.length := fmp_f (y := { x with size := up, pl := pl1 }) hyf
    have d : D w0 (cel x.blk 65 (vcell { x with size := up, pl := pl1 }) :: Rw 3 1 x.cv x.ch.length (x.ch.flatMap nc) :: fmp { x with size := up, pl := pl1 } :: sat ((rmV id M).map vob) :: Pl pb cap F1 :: cel b 60 [.pointer (some ⟨pb, 0, none⟩), .map (some m), .int .i64 most, .int .i64 last] :: Rw 3 1 sv S.length (S.flatMap nI) :: Mp m (vmap M) M.length :: cel bo 25 [.pointer (some ⟨b, 0, none⟩)] :: L) w := by
      rw [hv2, hf2, hc, hq]
      exact D.sel [0, 5, 1, 6, 2, 3, 4, 7] d
    have d := vone_in (y := { x with size := up, pl := pl1 }) (R := rmV id M) d
    refine k F1 pl1 w (hri.as (fun q hh => hh.2) fun q h1 h2 => ?_) (D.tail (D.swap (Vs.mk (m := m) (pb := pb) (L := cel bo 25 [.pointer (some ⟨b, 0, none⟩)] :: L) ?_)))
    · have : q ∉ S := fun hh => h2 ⟨hh, h1⟩
      rw [hS] at this
      unfold fgM at this
      cases hl : look x.pl q with
      | none => rfl
      | some f => rw [hl] at this; exact absurd rfl this
    · rw [e5, e6]
      exact D.sel [2, 1, 3, 0, 4] (D.sel [3] d).tail
end
end Go.Proofs.Ytlcbfahjejgjlaa
