/- Several texts of this session's own, joined: Nl, Nm. -/
import Derived.Test.YtlcbfahjejgjlaaYf
import Derived.Test.YtlcbfahjejgjlaaYe
import Derived.Test.YtlcbfahjejgjlaaYc
set_option maxRecDepth 100000
set_option maxHeartbeats 1600000
namespace Go.Proofs.Ytlcbfahjejgjlaa
open Go Go.Jac
/-- Bytes laid over others. -/
def ov (W : List Int) (o : Nat) (l : List Int) : List Int := W.take o ++ l ++ W.drop (o + l.length)
theorem ov_len {W l : List Int} {o : Nat} (h : o + l.length ≤ W.length) : (ov W o l).length = W.length := by
  unfold ov
  simp only [List.length_append, List.length_take, List.length_drop]
  omega
theorem ov_sub {B : Nat → Int} {n o : Nat} {l : List Int} (h : o + l.length ≤ n) : ov (sub B 0 n) o l = sub (wr B o l) 0 n := by
  have hs : (sub B 0 n).length = n := sub_len _ _ _
  have hg : ∀ i, i < n → (sub B 0 n)[i]? = some (B i) := fun i hi => by simp [sub, hi]
  have ht : (List.take o (sub B 0 n)).length = o := by rw [List.length_take, hs]; omega
  have htl : (List.take o (sub B 0 n) ++ l).length = o + l.length := by rw [List.length_append, ht]
  apply List.ext_getElem?
  intro i
  by_cases h2 : i < n
  · have e : (sub (wr B o l) 0 n)[i]? = some (wr B o l i) := by simp [sub, h2]
    rw [e]
    unfold ov wr
    by_cases h3 : i < o
    · rw [if_neg (by omega), List.getElem?_append_left (by omega), List.getElem?_append_left (by omega), List.getElem?_take_of_lt h3, hg i h2]
    · by_cases h4 : i < o + l.length
      · rw [if_pos (by omega), List.getElem?_append_left (by omega), List.getElem?_append_right (by omega), ht, List.getElem?_eq_getElem (by omega)]
        rfl
      · rw [if_neg (by omega), List.getElem?_append_right (by omega), htl, List.getElem?_drop, show o + l.length + (i - (o + l.length)) = i by omega, hg i h2]
  · rw [List.getElem?_eq_none (by rw [ov_len (by omega)]; omega), List.getElem?_eq_none (by rw [sub_len]; omega)]
theorem sub_drop (B : Nat → Int) {a n k : Nat} (h : k ≤ n) : (sub B a n).drop k = sub B (a + k) (n - k) := by
  apply List.ext_getElem
  · simp [sub]
  · intro i h1 h2; simp [sub, Nat.add_assoc]
theorem sub_wr {B : Nat → Int} {o : Nat} {l : List Int} : sub (wr B o l) o l.length = l := by
  apply List.ext_getElem
  · simp [sub]
  · intro i h1 h2
    simp only [sub, List.getElem_map, List.getElem_range, wr]
    rw [if_pos (by omega), show o + i - o = i by omega, List.getElem?_eq_getElem h2]
    rfl
section
variable {w0 w : World} {L : List HP} {K : Value → WP} {wv sv : Value} {W l : List Int} {o : Nat}
theorem run_copy_nil {dT sT ty : TypeId} {p : Option Addr} {dLen dCap c : Nat} {inf : TypeInfo} (hu : pg.underlying dT = some (.slice 5)) (hi : pg.info? 5 = some inf) :
    (Builtin.copy_ #[dT, sT] ty #[.slice p dLen dCap, .slice none 0 c]).run pg w = .ok (goInt 0) w := by
  simp [Builtin.copy_, run_underlying hu, Builtin.lenOf, Go.Jac.run_sizeOf hi, Builtin.firstCells, storeCells]
  cases p <;> rfl
theorem cpb_ok (ho : o + l.length ≤ W.length) (hW : o < W.length) (hs : SeesB w sv l) (d : D w0 (Rw 5 1 wv W.length (W.flatMap bI) :: L) w)
    (k : ∀ v w', D w0 (Rw 5 1 wv W.length ((ov W o l).flatMap bI) :: L) w' → K v w') : Ex pg (Builtin.copy_ #[22, 22] 3 #[dropV o wv, sv]) K w := by
  obtain ⟨inf, hi, his⟩ := infoB
  obtain ⟨bb, cap, junk, rfl, hle, hl2, s⟩ := Rw.block d.1 (by omega)
  have hWl : (W.flatMap bI).length = W.length := by rw [bI_map, List.length_map]
  have e0 : dropV o (.slice (some ⟨bb, 0, none⟩) W.length cap) = .slice (some ⟨bb, o, none⟩) (W.length - o) (cap - o) := by
    show Value.slice (if cap = o then _ else _) _ _ = _
    rw [if_neg (by omega)]
    simp [Addr.add]
    try omega
  rw [e0]
  obtain ⟨p, sc, rfl, hsc, hx⟩ := hs
  have hbl : (l.flatMap bI).length = l.length := by rw [bI_map, List.length_map]
  cases p with
  | none =>
    have hl : l = [] := by
      cases l with
      | nil => rfl
      | cons x r => obtain ⟨a, h, _⟩ := hx (by simp); cases h
    subst hl
    refine ⟨_, w, run_copy_nil Try.underlying22 hi, k _ w ?_⟩
    have : ov W o [] = W := by unfold ov; simp
    rw [this]; exact d
  | some a =>
    refine cp_ok Try.underlying22 hi ⟨s, d.2⟩ (news := l.flatMap bI) (by rw [hbl, his, Nat.mul_one]; exact (Nat.min_eq_left (by omega)).symm) (fun j v hv => ?_) (by rw [hbl, List.length_append, hWl]; omega) (bI_one l) fun v w d => ?_
    · rw [bI_map, List.getElem?_map] at hv
      obtain ⟨x, hx1, rfl⟩ := Option.map_eq_some_iff.1 hv
      have hne : l ≠ [] := by rintro rfl; simp at hx1
      obtain ⟨a', e, hxx⟩ := hx hne
      cases e
      exact hxx j x hx1
    · refine k v w ?_
      have hsp : splice (W.flatMap bI ++ junk) o (l.flatMap bI) = (ov W o l).flatMap bI ++ junk := by
        rw [splice_eq _ _ _ (by rw [List.length_append, hWl, hbl]; omega), List.take_append_of_le_length (by rw [hWl]; omega), List.drop_append_of_le_length (by rw [hWl, hbl]; omega), hbl]
        unfold ov
        simp only [bI_map, List.map_append, List.map_take, List.map_drop, List.append_assoc]
      rw [hsp] at d
      have e3 := ov_len (l := l) ho
      have e4 : ((ov W o l).flatMap bI).length = W.length := by rw [bI_map, List.length_map, e3]
      exact ⟨Rw.mk (n := W.length) d.1 hle (by rw [e4, Nat.mul_one]) (by rw [List.length_append, e4, ← hWl, ← List.length_append]; exact hl2), d.2⟩
theorem Copy_ok (hp : 0 < l.length) (hm : l.length ≤ 100000) (hA : SeesB w sv l) (d : D w0 L w) (k : ∀ v w', D w0 (Rw 5 1 v l.length (l.flatMap bI) :: L) w' → K v w') : Cl pg 16 #[sv] K w := by
  refine V.jacinthref07_Copy_ok ?_
  unfold V.jacinthref07_Copy
  have d0 : D w0 (Rw 5 1 (.slice none 0 0) 0 [] :: L) w := ⟨Rw.nil _ _ d.1, d.2⟩
  refine d_app (m := l.length) d0 hA.src rfl hp (by omega) (by omega) (bI_one l) fun v w d => ?_
  rw [Nat.zero_add, List.nil_append] at d
  exact k v w d
end
theorem byt_keep {cap : Int} {M : List Vo} {yid : Int} {a : Nat} {l : List Int} {F F' : List Fr} {y z : Vo} {pl' : PL} {id : Int} (h : WR cap M yid y F a l F' pl') (hn : Nv M) (hz : vfind M id = some z) (hne : id ≠ yid) (i : Nat) : byt F' z.pl i = byt F z.pl i := by
  unfold byt
  cases hl : look z.pl ((i / 64 : Nat) : Int) with
  | none => rfl
  | some f =>
    have h1 := cnt_pos hl
    have h2 : vfind (rmV yid M) id = some z := by rw [vfind_rm, if_neg (fun e => hne e.symm)]; exact hz
    have h3 := tot_rm (hn.rm yid) h2 f
    simp only
    rw [h.dat f (by omega)]
/-- An object, a snapshot of it, and a window on it. -/
structure AP (F : List Fr) (M : List Vo) (x y z : Vo) (B1 B2 : Nat → Int) (N : Nat) : Prop where
  vw : VW 64 F M
  l1 : live M 1 = some x
  l2 : live M 2 = some y
  l3 : live M 3 = some z
  s1 : x.sl = false
  s2 : y.sl = false
  s3 : z.sl = true
  z1 : x.size = 256
  z2 : y.size = 256
  z3 : z.size = 192
  p3 : z.parent = 1
  f3 : z.from_ = 64
  c1 : ∀ i, i < 256 → byt F x.pl i = B1 i
  c2 : ∀ i, i < 256 → byt F y.pl i = B2 i
  u : usedF F ≤ N
theorem live_mk {M : List Vo} {id : Int} {x : Vo} (h : vfind M id = some x) (hd : x.dr = false) : live M id = some x := by unfold live; rw [h]; simp [hd]
section
variable {F F' : List Fr} {M : List Vo} {x y z : Vo} {B1 B2 : Nat → Int} {N : Nat} {a : Nat} {l : List Int} {pl' : PL}
theorem AP.b3 (h : AP F M x y z B1 B2 N) : BaseN M 1 z x 64 := by
  have := BaseN.s (n := 0) (t := 0) h.s3 (by rw [h.p3]; exact (live_some h.l1).1) (.z h.s1)
  rw [h.f3] at this
  exact this
theorem AP.w1 (h : AP F M x y z B1 B2 N) (hw : WR 64 M 1 x F a l F' pl') (hp : (pgL a l.length).length ≤ 5) : AP F' ({ x with pl := pl' } :: rmV 1 M) { x with pl := pl' } y z (wr B1 a l) B2 (N + 5) := by
  obtain ⟨v1, d1⟩ := live_some h.l1
  obtain ⟨v2, d2⟩ := live_some h.l2
  obtain ⟨v3, d3⟩ := live_some h.l3
  have hx := (vfind_id v1).1
  refine ⟨h.vw.pl v1 ((h.vw.hasf 1 x v1).1 h.s1) hw.ok hw.kn hw.ui, live_mk (by rw [vfind_upd (y := { x with pl := pl' }) hx, if_pos rfl]) d1, live_mk (by rw [vfind_upd (y := { x with pl := pl' }) hx, if_neg (by decide)]; exact v2) d2, live_mk (by rw [vfind_upd (y := { x with pl := pl' }) hx, if_neg (by decide)]; exact v3) d3, h.s1, h.s2, h.s3, h.z1, h.z2, h.z3, h.p3, h.f3, fun i hi => ?_, fun i hi => ?_, ?_⟩
  · show byt F' pl' i = _
    rw [hw.byt i, h.c1 i hi]; rfl
  · rw [byt_keep hw h.vw.nd v2 (by decide)]; exact h.c2 i hi
  · have h1 := hw.used
    have h2 := needF_le (F, x.pl) (pgL a l.length)
    have h3 := h.u
    omega
theorem AP.w2 (h : AP F M x y z B1 B2 N) (hw : WR 64 M 2 y F a l F' pl') (hp : (pgL a l.length).length ≤ 5) : AP F' ({ y with pl := pl' } :: rmV 2 M) x { y with pl := pl' } z B1 (wr B2 a l) (N + 5) := by
  obtain ⟨v1, d1⟩ := live_some h.l1
  obtain ⟨v2, d2⟩ := live_some h.l2
  obtain ⟨v3, d3⟩ := live_some h.l3
  have hx := (vfind_id v2).1
  refine ⟨h.vw.pl v2 ((h.vw.hasf 2 y v2).1 h.s2) hw.ok hw.kn hw.ui, live_mk (by rw [vfind_upd (y := { y with pl := pl' }) hx, if_neg (by decide)]; exact v1) d1, live_mk (by rw [vfind_upd (y := { y with pl := pl' }) hx, if_pos rfl]) d2, live_mk (by rw [vfind_upd (y := { y with pl := pl' }) hx, if_neg (by decide)]; exact v3) d3, h.s1, h.s2, h.s3, h.z1, h.z2, h.z3, h.p3, h.f3, fun i hi => ?_, fun i hi => ?_, ?_⟩
  · rw [byt_keep hw h.vw.nd v1 (by decide)]; exact h.c1 i hi
  · show byt F' pl' i = _
    rw [hw.byt i, h.c2 i hi]; rfl
  · have h1 := hw.used
    have h2 := needF_le (F, y.pl) (pgL a l.length)
    have h3 := h.u
    omega
theorem pg5 {a : Int} {n : Nat} (hn : n ≤ 256) : (pgL a n).length ≤ 5 := by
  rw [pgL_len]; unfold pgN; split <;> omega
end
section
variable {w0 w : World} {L : List HP} {K : Value → WP} {b : Nat} {F : List Fr} {M : List Vo} {x y z : Vo} {B1 B2 : Nat → Int} {N : Nat} {l : List Int} {A : HP} {sv : Value}
/-- Written to the object itself, or through the window. -/
theorem apw1 {id a : Int} {t : Nat} (hid : (id = 1 ∧ t = 0 ∧ a + l.length ≤ 256) ∨ (id = 3 ∧ t = 64 ∧ a + l.length ≤ 192)) (ha : 0 ≤ a) (h : AP F M x y z B1 B2 N) (hN : N + 5 ≤ 64) (hl : l.length ≤ 256) (hA : SeesBA w0 A sv l) (d : D w0 (A :: Vs b 3 8 64 F M :: L) w)
    (k : ∀ F' M' x' w', AP F' M' x' y z (wr B1 (t + a.toNat) l) B2 (N + 5) → D w0 (A :: Vs b 3 8 64 F' M' :: L) w' → K (.int .i64 0) w') :
    Cl pg 11 #[.pointer (some ⟨b, 0, none⟩), .int .i64 id, .int .i64 a, sv] K w := by
  have hb1 : BaseN M 0 x x 0 := .z h.s1
  have hb3 := h.b3
  have key : ∃ u N', live M id = some u ∧ BaseN M N' u x t ∧ a + l.length ≤ u.size := by
    rcases hid with ⟨rfl, rfl, h1⟩ | ⟨rfl, rfl, h1⟩
    · exact ⟨x, 0, h.l1, hb1, by rw [h.z1]; exact h1⟩
    · exact ⟨z, 1, h.l3, hb3, by rw [h.z3]; exact h1⟩
  obtain ⟨u, N', hu, hb, hsz⟩ := key
  have hx1 := (vfind_id (live_some h.l1).1).1
  refine VWrite_ok h.vw hA d (fun e w he hno d => ?_) fun x' N2 y' yid t2 F' pl' w hx' hb' hy' _ _ _ hwr _ d => ?_
  · exfalso
    rcases hno with hh | hh | ⟨x', hx', hh⟩ | ⟨x', N2, y', t2, hx', hb', hh⟩
    · rw [hu] at hh; cases hh
    · omega
    · rw [hu] at hx'
      obtain rfl := Option.some.inj hx'
      exact hh ⟨by omega, by omega, by omega⟩
    · rw [hu] at hx'
      obtain rfl := Option.some.inj hx'
      obtain ⟨-, rfl, rfl⟩ := hb.uniq hb'
      have h1 := needF_le (F, x.pl) (pgL (t + a) (l.length : Int))
      have h2 : (pgL ((t : Int) + a) (l.length : Int)).length ≤ 5 := pg5 hl
      have := h.u
      omega
  · rw [hu] at hx'
    obtain rfl := Option.some.inj hx'
    obtain ⟨-, rfl, rfl⟩ := hb.uniq hb'
    obtain rfl : yid = 1 := by rw [← (vfind_id hy').1, hx1]
    have e : ((t : Int) + a).toNat = t + a.toNat := by omega
    rw [e] at hwr
    exact k F' _ _ w (h.w1 hwr (pg5 hl)) d
theorem apw2 {a : Int} (ha : 0 ≤ a) (hal : a + l.length ≤ 256) (h : AP F M x y z B1 B2 N) (hN : N + 5 ≤ 64) (hl : l.length ≤ 256) (hA : SeesBA w0 A sv l) (d : D w0 (A :: Vs b 3 8 64 F M :: L) w)
    (k : ∀ F' M' y' w', AP F' M' x y' z B1 (wr B2 a.toNat l) (N + 5) → D w0 (A :: Vs b 3 8 64 F' M' :: L) w' → K (.int .i64 0) w') :
    Cl pg 11 #[.pointer (some ⟨b, 0, none⟩), .int .i64 2, .int .i64 a, sv] K w := by
  have hb : BaseN M 0 y y 0 := .z h.s2
  have hu := h.l2
  have hsz := h.z2
  have hx1 := (vfind_id (live_some h.l2).1).1
  refine VWrite_ok h.vw hA d (fun e w he hno d => ?_) fun x' N2 y' yid t2 F' pl' w hx' hb' hy' _ _ _ hwr _ d => ?_
  · exfalso
    rcases hno with hh | hh | ⟨x', hx', hh⟩ | ⟨x', N2, y', t2, hx', hb', hh⟩
    · rw [hu] at hh; cases hh
    · omega
    · rw [hu] at hx'
      obtain rfl := Option.some.inj hx'
      exact hh ⟨by omega, by omega, by omega⟩
    · rw [hu] at hx'
      obtain rfl := Option.some.inj hx'
      obtain ⟨-, rfl, rfl⟩ := hb.uniq hb'
      have h1 := needF_le (F, y.pl) (pgL (0 + a) (l.length : Int))
      have h2 : (pgL (0 + a) (l.length : Int)).length ≤ 5 := pg5 hl
      have := h.u
      omega
  · rw [hu] at hx'
    obtain rfl := Option.some.inj hx'
    obtain ⟨-, rfl, rfl⟩ := hb.uniq hb'
    obtain rfl : yid = 2 := by rw [← (vfind_id hy').1, hx1]
    rw [Int.zero_add] at hwr
    exact k F' _ _ w (h.w2 hwr (pg5 hl)) d
/-- Read. -/
theorem apr {id a : Int} {t n : Nat} {B : Nat → Int} (hid : (id = 1 ∧ t = 0 ∧ a + n ≤ 256 ∧ B = B1) ∨ (id = 3 ∧ t = 64 ∧ a + n ≤ 192 ∧ B = B1) ∨ (id = 2 ∧ t = 0 ∧ a + n ≤ 256 ∧ B = B2)) (ha : 0 ≤ a) (h : AP F M x y z B1 B2 N) (d : D w0 (Vs b 3 8 64 F M :: L) w)
    (k : ∀ sv w', D w0 (Rw 5 1 sv (sub B (t + a.toNat) n).length ((sub B (t + a.toNat) n).flatMap bI) :: Vs b 3 8 64 F M :: L) w' → K (.tuple #[sv, .int .i64 0]) w') :
    Cl pg 12 #[.pointer (some ⟨b, 0, none⟩), .int .i64 id, .int .i64 a, .int .i64 n] K w := by
  have key : ∃ u g N', live M id = some u ∧ BaseN M N' u g t ∧ a + n ≤ u.size ∧ (t + a.toNat + n ≤ 256) ∧ ∀ i, i < 256 → byt F g.pl i = B i := by
    rcases hid with ⟨rfl, rfl, h1, rfl⟩ | ⟨rfl, rfl, h1, rfl⟩ | ⟨rfl, rfl, h1, rfl⟩
    · exact ⟨x, x, 0, h.l1, .z h.s1, by rw [h.z1]; exact h1, by omega, h.c1⟩
    · exact ⟨z, x, 1, h.l3, h.b3, by rw [h.z3]; exact h1, by omega, h.c1⟩
    · exact ⟨y, y, 0, h.l2, .z h.s2, by rw [h.z2]; exact h1, by omega, h.c2⟩
  obtain ⟨u, g, N', hu, hb, hsz, h256, hc⟩ := key
  refine VRead_ok h.vw d (fun e w he hno d => ?_) fun x' N2 y' yid t2 sv2 w hx' hb' hy' _ _ _ d => ?_
  · exfalso
    rcases hno with hh | hh | hh | ⟨x', hx', hh⟩
    · rw [hu] at hh; cases hh
    · omega
    · omega
    · rw [hu] at hx'
      obtain rfl := Option.some.inj hx'
      exact hh ⟨by omega, by omega, by omega, by omega⟩
  · rw [hu] at hx'
    obtain rfl := Option.some.inj hx'
    obtain ⟨-, rfl, rfl⟩ := hb.uniq hb'
    have e : ((t : Int) + a).toNat = t + a.toNat := by omega
    have e2 : sub (byt F g.pl) (t + a.toNat) n = sub B (t + a.toNat) n := sub_congr fun i hi => hc _ (by omega)
    rw [e, Int.toNat_natCast, e2] at d
    exact k sv2 w (by rw [sub_len]; exact d)
end
end Go.Proofs.Ytlcbfahjejgjlaa

set_option maxRecDepth 100000
set_option maxHeartbeats 1600000
namespace Go.Proofs.Ytlcbfahjejgjlaa
open Go Go.Jac
section
variable {w0 w : World} {L : List HP} {K : Value → WP} {s1 s2 s3 : Value} {at_ : Int}
theorem vapart_law (hat : I64 at_) (r1 : Rd pg w0 22 [s1]) (r2 : Rd pg w0 22 [s2]) (r3 : Rd pg w0 22 [s3]) (d : D w0 [Old w0] w) (k : ∀ w', D w0 [Old w0] w' → K (.bool true) w') :
    Cl pg 3 #[.agg #[s1, s2, s3, .int .i64 at_]] K w := by
  refine V.jacinthlaw08_VmoApart_ok ?_
  unfold V.jacinthlaw08_VmoApart
  have aw : ∀ {L' : List HP} {w : World} {K' : Value → WP}, D w0 L' w → (∀ w', D w0 L' w' → K' (.bool true) w') → FnV pg (.func (.func 9) #[] #[]) #[] K' w := fun d k => fn00 (fun _ _ => rfl) (awake_ok d k)
  obtain ⟨l1, _, h1, -⟩ := bytes_of r1
  obtain ⟨l2, _, h2, -⟩ := bytes_of r2
  obtain ⟨l3, _, h3, -⟩ := bytes_of r3
  repeat (first | refine drw d fun w d => ?_ | (simp +decide only [SEM]) | (refine d_new _ d fun bn w d => ?_) | refine qt d ?_ | refine qe_nil ?_ | (apply qlm; (focus ((repeat (first | exact .h _ | refine .t _ _ ?_)); done)); (focus rfl)))
  generalize bn = c1 at d ⊢
  refine fn20 (fun _ _ => rfl) (VNew_ok (cap := 64) (n := 8) (by omega) (by omega) d fun b w d => ?_)
  have hd : FnV pg (.func (.func 9) #[] #[]) #[] K w := aw d fun w d => k w d.tail.tail
  repeat (simp +decide only [SEM])
  refine (h1 _ _ (D.sel [2] d)).len ?_
  repeat (simp +decide only [SEM])
  refine ⟨fun hl1 => ?_, fun _ => by (skip); exact hd⟩
  refine (h2 _ _ (D.sel [2] d)).len ?_
  repeat (simp +decide only [SEM])
  refine ⟨fun hl2 => ?_, fun _ => by (skip); exact hd⟩
  refine (h3 _ _ (D.sel [2] d)).len ?_
  repeat (simp +decide only [SEM])
  refine ⟨fun hl3 => ?_, fun _ => by (skip); exact hd⟩
  skip
  refine ⟨fun h0 => ?_, fun _ => by (skip); exact hd⟩
  skip
  refine ⟨fun _ => by (skip); exact hd, fun h150 => ?_⟩
  clear hd
  refine fn20 (fun _ _ => rfl) (VCreate_ok (n := 256) (by omega) (VW.nil (cap := 64) (by omega)).nd (by simp) (by omega) rfl rfl (by simp) d fun fb c w d => ?_)
  have d : D w0 [Vs b 1 8 64 [] [newV 1 256 fb c], cel c1 24 [s1, s2, s3, .int .i64 at_], Old w0] w := d
  rw [show (0 : Int) + 1 = 1 from rfl]
  have vw1 : VW 64 [] [newV 1 256 fb c] := (VW.nil (by omega)).new rfl (by omega)
  repeat (simp +decide only [SEM])
  -- the first bytes
  refine fn40 (fun _ _ => rfl) (Cl.mono (K := fun v w' => ∃ (F : List Fr) (pl : PL), v = .int .i64 0 ∧ VW 64 F [{ newV 1 256 fb c with pl := pl }] ∧ usedF F ≤ 5 ∧ pl.length ≤ 5 ∧ D w0 [Vs b 1 8 64 F [{ newV 1 256 fb c with pl := pl }], cel c1 24 [s1, s2, s3, .int .i64 at_], Old w0] w')
    (VWrite_ok (l := l1) vw1 h1 (D.sel [2] d) (fun e w he hno d => ?_) fun x' N y yid t F' pl' w hx' hb' hy' _ _ _ hwr _ d => ?_) ?_)
  · exfalso
    have l1' : live [newV 1 256 fb c] 1 = some (newV 1 256 fb c) := rfl
    rcases hno with hh | hh | ⟨x', hx', hh⟩ | ⟨x', N, y', t, hx', hb', hh⟩
    · rw [l1'] at hh; cases hh
    · omega
    · rw [l1'] at hx'
      obtain rfl := Option.some.inj hx'
      have hh : ¬ ((0 : Int) ≤ 0 ∧ (0 : Int) ≤ 256 ∧ (l1.length : Int) ≤ 256 - 0) := hh
      omega
    · rw [l1'] at hx'
      obtain rfl := Option.some.inj hx'
      obtain ⟨-, rfl, rfl⟩ := hb'.flat rfl
      have g1 := needF_le ([], (newV 1 256 fb c).pl) (pgL (0 + 0) (l1.length : Int))
      have g2 : (pgL (0 + 0) (l1.length : Int)).length ≤ 5 := pg5 (by omega)
      rw [show usedF [] = 0 from rfl] at hh
      omega
  · have l1' : live [newV 1 256 fb c] 1 = some (newV 1 256 fb c) := rfl
    rw [l1'] at hx'
    obtain rfl := Option.some.inj hx'
    obtain ⟨-, rfl, rfl⟩ := hb'.flat rfl
    obtain rfl : yid = 1 := (vfind_id hy').1.symm
    have eM : ({ newV 1 256 fb c with pl := pl' } :: rmV 1 [newV 1 256 fb c]) = [{ newV 1 256 fb c with pl := pl' }] := rfl
    have vw2 := vw1.pl (pl := pl') hy' rfl hwr.ok hwr.kn hwr.ui
    rw [eM] at vw2 d
    have g1 := hwr.used
    have g2 := needF_le ([], (newV 1 256 fb c).pl) (pgL ((0 + 0 : Int).toNat : Int) (l1.length : Int))
    have g3 : (pgL ((0 + 0 : Int).toNat : Int) (l1.length : Int)).length ≤ 5 := pg5 (by omega)
    rw [show usedF [] = 0 from rfl] at g1
    have hlen : pl'.length = (pgL ((0 + 0 : Int).toNat : Int) (l1.length : Int)).length := pl_len hwr.kn (pgL_nd _ _) fun q => by rw [hwr.pgs q]; simp [newV, look]
    exact ⟨F', pl', rfl, vw2, by omega, by omega, D.sel [1, 2, 0] d⟩
  clear d vw1
  rintro _ w ⟨F1, pl1, rfl, vw1, hu1, hp5, d⟩
  repeat (simp +decide only [SEM])
  obtain ⟨x1, hx1⟩ : ∃ x1 : Vo, x1 = { newV 1 256 fb c with pl := pl1 } := ⟨_, rfl⟩
  obtain ⟨B, hB⟩ : ∃ B : Nat → Int, B = byt F1 pl1 := ⟨_, rfl⟩
  rw [← hx1] at vw1 d
  have ll1 : live [x1] 1 = some x1 := by rw [hx1]; rfl
  have vf1 : vfind [x1] 1 = some x1 := by rw [hx1]; rfl
  have xs1 : x1.sl = false := by rw [hx1]; rfl
  have xz1 : x1.size = 256 := by rw [hx1]; rfl
  have xp1 : x1.pl = pl1 := by rw [hx1]
  refine fn40 (fun _ _ => rfl) (VRead_ok (n := 256) (a := 0) vw1 d (fun e w he hno d => ?_) fun x' N y' yid t va w hx' hb' hy' _ _ _ d => ?_)
  · exfalso
    rcases hno with hh | hh | hh | ⟨x', hx', hh⟩
    · rw [ll1] at hh; cases hh
    · omega
    · omega
    · rw [ll1] at hx'
      obtain rfl := Option.some.inj hx'
      rw [xz1] at hh
      exact hh ⟨by omega, by omega, by omega, by omega⟩
  rw [ll1] at hx'
  obtain rfl := Option.some.inj hx'
  obtain ⟨-, rfl, rfl⟩ := hb'.flat xs1
  rw [xp1, ← hB, show ((0 : Int) + 0).toNat = 0 from rfl, show (256 : Int).toNat = 256 from rfl] at d
  clear hb' hy'
  repeat (simp +decide only [SEM])
  have dpb : ∀ z ∈ [y'], 0 ≤ z.depth ∧ z.depth ≤ 100 := fun z hz => by rw [List.mem_singleton.1 hz, hx1]; exact ⟨by simp [newV], by simp [newV]⟩
  -- the snapshot
  have w256 : winOk y' 0 256 := ⟨by omega, by omega, by omega, by omega, by omega, by omega⟩
  have ll2 : ∀ M : List Vo, live (y' :: M) 1 = some y' := fun M => by rw [hx1]; rfl
  have hus : ∀ f, (fr F1 f).users ≤ 5 := fun f => by
    have e := vw1.ui f
    have e2 : tot [y'] f = cnt pl1 f := by simp [tot, xp1]
    have e3 : cnt pl1 f ≤ pl1.length := List.countP_le_length
    omega
  refine fn40 (fun _ _ => rfl) (VSnap_ok vw1 (by omega) (by rw [hx1]; rfl) (fun z hz => by rw [List.mem_singleton.1 hz, hx1]; simp [newV]) (fun f => by have := hus f; omega) (D.sel [1] d) (fun hno e w he d => ?_) fun x' hx' _ _ _ _ F2 v2 fb2 c2 w hsn d => ?_)
  · exfalso
    rcases hno with hh | hh | hh
    · rcases hh y' ll1 with h | h
      · exact h w256
      · rw [xs1] at h; cases h
    · omega
    · simp at hh
  rw [ll1] at hx'
  obtain rfl := Option.some.inj hx'
  rw [xp1, show (0 : Int) / 64 = 0 from rfl, show pgN 0 256 = 4 from rfl] at hsn d
  have hl4 := snP_len pl1 0 4
  have vw2 := vw1.snap (last := 1) (n := 256) (fb := fb2) (c := c2) (v := v2) vf1 (by rw [hx1]; rfl) (by omega) hsn (kn_snP pl1 0 4) fun f => by
    rw [hsn.us f]
    have g1 := hus f
    have g2 : cnt (snP pl1 0 4) f ≤ (snP pl1 0 4).length := List.countP_le_length
    omega
  obtain ⟨npl, hnpl⟩ : ∃ npl, npl = snP pl1 0 4 := ⟨_, rfl⟩
  rw [← hnpl] at hsn d vw2
  obtain ⟨y, hy⟩ : ∃ y : Vo, y = snV 2 256 1 fb2 c2 npl := ⟨_, rfl⟩
  have eM2 : (snV (1 + 1) 256 1 fb2 c2 npl :: rmV (1 + 1) (addM [y'] (snV (1 + 1) 256 1 fb2 c2 []) v2)) = [y, { y' with cv := v2, ch := [2] }] := by rw [hx1, hy]; rfl
  rw [eM2] at d vw2
  have d : D w0 [Vs b 2 8 64 F2 [y, { y' with cv := v2, ch := [2] }], Rw 5 1 va 256 ((sub B 0 256).flatMap bI), cel c1 24 [s1, s2, s3, .int .i64 at_], Old w0] w := d
  have hc1 : ∀ i, i < 256 → byt F2 pl1 i = B i := fun i _ => by
    rw [hB]; unfold byt
    cases look pl1 ((i / 64 : Nat) : Int) with
    | none => rfl
    | some f => simp only [hsn.dat f]
  have hc2 : ∀ i, i < 256 → byt F2 npl i = B i := fun i hi => by
    rw [← hc1 i hi, hnpl]; unfold byt
    rw [look_snP, if_pos (by omega), Int.zero_add]
  have hu2 : usedF F2 ≤ 5 := by rw [hsn.used]; exact hu1
  repeat (simp +decide only [SEM])
  -- the window
  have lx : live [y, { y' with cv := v2, ch := [2] }] 1 = some { y' with cv := v2, ch := [2] } := by rw [hx1, hy]; rfl
  have dx : y'.depth = 0 := by rw [hx1]; rfl
  have wn : winOk { y' with cv := v2, ch := [2] } 64 192 := ⟨by omega, by omega, by omega, by omega, by show (64 : Int) ≤ y'.size; omega, by show (192 : Int) ≤ y'.size - 64; omega⟩
  have hdp : ∀ z ∈ [y, { y' with cv := v2, ch := [2] }], 0 ≤ z.depth ∧ z.depth ≤ 100 ∧ z.ch.length ≤ 1000000 := fun z hz => by
    rcases List.mem_cons.1 hz with rfl | hz
    · rw [hy]; exact ⟨by simp [snV], by simp [snV], by simp [snV]⟩
    · rw [List.mem_singleton.1 hz]; exact ⟨by show 0 ≤ y'.depth; omega, by show y'.depth ≤ 100; omega, by simp⟩
  refine fn40 (fun _ _ => rfl) (VSlice_ok vw2.nd vw2.sz (fun z hz => ⟨(hdp z hz).1, (hdp z hz).2.1⟩) (by omega) (by rw [hx1, hy]; rfl) (fun z hz => (hdp z hz).2.2) d (fun hno e w he d => ?_) (fun u hu _ hdd w d => ?_) fun u hu _ _ _ v3 c3 w d => ?_)
  · exfalso
    rcases hno with hh | hh
    · exact hh _ lx wn
    · simp at hh
  · exfalso
    rw [lx] at hu
    obtain rfl := Option.some.inj hu
    have hdd : 16 ≤ y'.depth := hdd
    omega
  rw [lx] at hu
  obtain rfl := Option.some.inj hu
  have vw3 := vw2.slice (last := 2) (n := 192) (a := 64) (c := c3) (v := v3) (live_some lx).1 (by rw [hx1, hy]; rfl) ⟨0, _, 0, by omega, .z xs1⟩ (by show 0 ≤ y'.depth; omega) (by omega) (by omega)
  obtain ⟨z, hz⟩ : ∃ z : Vo, z = winV 3 192 1 64 1 c3 := ⟨_, rfl⟩
  obtain ⟨x, hx⟩ : ∃ x : Vo, x = { y' with cv := v3, ch := [2, 3] } := ⟨_, rfl⟩
  have eM3 : addM [y, { y' with cv := v2, ch := [2] }] (winV (2 + 1) 192 1 64 (({ y' with cv := v2, ch := [2] } : Vo).depth + 1) c3) v3 = [x, z, y] := by rw [hx, hz, hy, hx1]; rfl
  rw [eM3] at d vw3
  have d : D w0 [Vs b 3 8 64 F2 [x, z, y], Rw 5 1 va 256 ((sub B 0 256).flatMap bI), cel c1 24 [s1, s2, s3, .int .i64 at_], Old w0] w := d
  have ap : AP F2 [x, z, y] x y z B B 5 := ⟨vw3, by rw [hx, hx1]; rfl, by rw [hx, hz, hy, hx1]; rfl, by rw [hx, hz, hx1]; rfl, by rw [hx]; exact xs1, by rw [hy]; rfl, by rw [hz]; rfl, by rw [hx]; exact xz1, by rw [hy]; rfl, by rw [hz]; rfl, by rw [hz]; rfl, by rw [hz]; rfl, fun i hi => by rw [hx]; exact (congrArg (fun p => byt F2 p i) xp1).trans (hc1 i hi), fun i hi => by rw [hy]; exact hc2 i hi, hu2⟩
  generalize [x, z, y] = M at d ap
  clear vw1 vw2 vw3 hx hz hy eM2 eM3 lx wn hdp hsn hnpl vf1 ll1 ll2
  obtain ⟨a, rfl⟩ : ∃ a : Nat, at_ = a := ⟨at_.toNat, by omega⟩
  have hSl : (sub B 0 256).length = 256 := sub_len _ _ _
  have d : D w0 [Vs b 3 8 64 F2 M, Rw 5 1 va (sub B 0 256).length ((sub B 0 256).flatMap bI), cel c1 24 [s1, s2, s3, .int .i64 (a : Int)], Old w0] w := by rw [hSl]; exact d
  repeat (simp +decide only [SEM])
  refine fn40 (fun _ _ => rfl) (apw1 (t := 0) (.inl ⟨rfl, rfl, by omega⟩) (by omega) ap (by omega) (by omega) h2 (D.sel [3, 0] d) fun F3 M3 x3 w ap d => ?_)
  rw [Nat.zero_add, Int.toNat_natCast] at ap
  repeat (simp +decide only [SEM])
  refine fn40 (fun _ _ => rfl) (apr (n := 256) (t := 0) (B := B) (.inr (.inr ⟨rfl, rfl, by omega, rfl⟩)) (by omega) ap (D.sel [1] d) fun sb w d => ?_)
  have d : D w0 [Rw 5 1 sb (sub B 0 256).length ((sub B 0 256).flatMap bI), Vs b 3 8 64 F3 M3, Old w0, Rw 5 1 va (sub B 0 256).length ((sub B 0 256).flatMap bI), cel c1 24 [s1, s2, s3, .int .i64 (a : Int)]] w := d
  repeat (simp +decide only [SEM])
  refine fn20 (fun _ _ => rfl) (Same_ok (seesB_rw _ _ d) (seesB_rw _ _ (D.sel [3] d)) ?_)
  have d := d.tail
  repeat (simp +decide only [SEM])
  refine fn40 (fun _ _ => rfl) (apw2 (by omega) (by omega) ap (by omega) (by omega) h3 (D.sel [1, 0] d) fun F4 M4 y4 w ap d => ?_)
  rw [Int.toNat_natCast] at ap
  repeat (simp +decide only [SEM])
  -- what the object has to read
  refine fn10 (fun _ _ => rfl) (Copy_ok (by omega) (by omega) (seesB_rw _ _ (D.sel [2] d)) d fun wv w d => ?_)
  refine (seesB_rw _ _ d).slc_drop (i := a) (by omega) ?_
  refine cpb_ok (by omega) (by omega) (h2 _ _ (D.sel [1] d)) d fun v w d => ?_
  have e1 : ov (sub B 0 256) a l2 = sub (wr B a l2) 0 256 := ov_sub (by omega)
  have hSl2 : (sub (wr B a l2) 0 256).length = (sub B 0 256).length := by rw [sub_len, sub_len]
  rw [e1, ← hSl2] at d
  refine fn40 (fun _ _ => rfl) (apr (n := 256) (t := 0) (B := wr B a l2) (.inl ⟨rfl, rfl, by omega, rfl⟩) (by omega) ap (D.sel [2] d) fun g1 w d => ?_)
  have d : D w0 [Rw 5 1 g1 (sub (wr B a l2) 0 256).length ((sub (wr B a l2) 0 256).flatMap bI), Vs b 3 8 64 F4 M4, Rw 5 1 wv (sub (wr B a l2) 0 256).length ((sub (wr B a l2) 0 256).flatMap bI), Old w0, Rw 5 1 va (sub B 0 256).length ((sub B 0 256).flatMap bI), cel c1 24 [s1, s2, s3, .int .i64 (a : Int)]] w := d
  repeat (simp +decide only [SEM])
  refine fn40 (fun _ _ => rfl) (apr (n := 192) (t := 64) (B := wr B a l2) (.inr (.inl ⟨rfl, rfl, by omega, rfl⟩)) (by omega) ap (D.sel [1] d) fun g2 w d => ?_)
  have d : D w0 [Rw 5 1 g2 (sub (wr B a l2) 64 192).length ((sub (wr B a l2) 64 192).flatMap bI), Vs b 3 8 64 F4 M4, Rw 5 1 g1 (sub (wr B a l2) 0 256).length ((sub (wr B a l2) 0 256).flatMap bI), Rw 5 1 wv (sub (wr B a l2) 0 256).length ((sub (wr B a l2) 0 256).flatMap bI), Old w0, Rw 5 1 va (sub B 0 256).length ((sub B 0 256).flatMap bI), cel c1 24 [s1, s2, s3, .int .i64 (a : Int)]] w := d
  repeat (simp +decide only [SEM])
  refine fn20 (fun _ _ => rfl) (Same_ok (seesB_rw _ _ (D.sel [2] d)) (seesB_rw _ _ (D.sel [3] d)) ?_)
  repeat (simp +decide only [SEM])
  refine (seesB_rw _ _ (D.sel [3] d)).slc_drop (i := 64) (by omega) ?_
  have e2 := (seesB_rw _ _ (D.sel [3] d)).dropV (i := 64) (by omega)
  rw [sub_drop _ (by decide)] at e2
  refine fn20 (fun _ _ => rfl) (Same_ok (seesB_rw _ _ d) e2 ?_)
  clear e2
  repeat (simp +decide only [SEM])
  have d : D w0 [Vs b 3 8 64 F4 M4, Old w0, Rw 5 1 va (sub B 0 256).length ((sub B 0 256).flatMap bI), cel c1 24 [s1, s2, s3, .int .i64 (a : Int)]] w := (D.sel [0, 2, 3] d).tail.tail.tail
  -- what the snapshot has to read
  refine fn10 (fun _ _ => rfl) (Copy_ok (by omega) (by omega) (seesB_rw _ _ (D.sel [2] d)) d fun wv w d => ?_)
  refine (seesB_rw _ _ d).slc_drop (i := a) (by omega) ?_
  refine cpb_ok (by omega) (by omega) (h3 _ _ (D.sel [2] d)) d fun v w d => ?_
  have e1 : ov (sub B 0 256) a l3 = sub (wr B a l3) 0 256 := ov_sub (by omega)
  have hSl3 : (sub (wr B a l3) 0 256).length = (sub B 0 256).length := by rw [sub_len, sub_len]
  rw [e1, ← hSl3] at d
  refine fn40 (fun _ _ => rfl) (apr (n := 256) (t := 0) (B := wr B a l3) (.inr (.inr ⟨rfl, rfl, by omega, rfl⟩)) (by omega) ap (D.sel [1] d) fun g1 w d => ?_)
  have d : D w0 [Rw 5 1 g1 (sub (wr B a l3) 0 256).length ((sub (wr B a l3) 0 256).flatMap bI), Vs b 3 8 64 F4 M4, Rw 5 1 wv (sub (wr B a l3) 0 256).length ((sub (wr B a l3) 0 256).flatMap bI), Old w0, Rw 5 1 va (sub B 0 256).length ((sub B 0 256).flatMap bI), cel c1 24 [s1, s2, s3, .int .i64 (a : Int)]] w := d
  repeat (simp +decide only [SEM])
  refine fn20 (fun _ _ => rfl) (Same_ok (seesB_rw _ _ d) (seesB_rw _ _ (D.sel [2] d)) ?_)
  repeat (simp +decide only [SEM])
  have d : D w0 [Vs b 3 8 64 F4 M4, Old w0] w := D.only [1, 3] d
  -- through the window
  refine fn40 (fun _ _ => rfl) (apw1 (t := 64) (.inr ⟨rfl, rfl, by omega⟩) (by omega) ap (by omega) (by omega) h3 (D.sel [1] d) fun F5 M5 x5 w ap d => ?_)
  repeat (simp +decide only [SEM])
  refine (h3 _ _ d).len ?_
  refine fn40 (fun _ _ => rfl) (apr (n := l3.length) (t := 0) (.inl ⟨rfl, rfl, by omega, rfl⟩) (by omega) ap d.swap fun g1 w d => ?_)
  repeat (simp +decide only [SEM])
  have e4 : sub (wr (wr B a l2) (64 + (3 : Int).toNat) l3) (0 + (67 : Int).toNat) l3.length = l3 := sub_wr (o := 67)
  rw [e4] at d
  refine fn20 (fun _ _ => rfl) (Same_ok (seesB_rw _ _ d) (h3 _ _ (D.sel [2] d)) ?_)
  repeat (simp +decide only [SEM])
  exact aw d fun w d => k w (D.sel [2] d |> D.only [0])
end
end Go.Proofs.Ytlcbfahjejgjlaa
