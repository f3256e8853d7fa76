/- Several texts of this session's own, joined: Eh, Ei, Ej. -/
import Derived.Test.YtgkbbihaaichbaaYg
set_option maxRecDepth 100000
set_option maxHeartbeats 1600000
namespace Go.Proofs.Ytgkbbihaaichbaa
open Go Go.Jac
open Reg (Pc pc pc_len inP outP sumN insP PutOk Rok setp)
theorem pg2 (a : Int) (n : Nat) (h : n ≤ 64) : (pgL a n).length ≤ 2 := by rw [pgL_len]; unfold pgN; split <;> omega
def S2 (q1 q2 : Int) : List Pc := [⟨0, 64, 1, 0, q1⟩, ⟨64, 64, 1, 64, q2⟩]
theorem inP_case (x : Pc) (at_ m : Int) : inP at_ m x = if 0 ≤ x.a ∧ 0 < x.n ∧ 0 ≤ at_ ∧ 0 < m ∧ x.a < at_ + m ∧ at_ < x.a + x.n then [⟨max at_ x.a, min (at_ + m) (x.a + x.n) - max at_ x.a, x.v, x.f + (max at_ x.a - x.a), x.p⟩] else [] := by
  unfold Reg.inP Reg.ovB Reg.part
  simp only [decide_eq_true_eq]
theorem two_parts {q1 q2 at_ n : Int} (h0 : 0 ≤ at_) (hn : 0 ≤ n) (hs : at_ + n ≤ 128) : (S2 q1 q2).flatMap (inP at_ n) = (if n = 0 ∨ 64 ≤ at_ then [] else [⟨at_, min (at_ + n) 64 - at_, 1, at_, q1⟩]) ++ (if n = 0 ∨ at_ + n ≤ 64 then [] else [⟨max at_ 64, at_ + n - max at_ 64, 1, max at_ 64, q2⟩]) := by
  unfold S2
  rw [List.flatMap_cons, List.flatMap_singleton, inP_case, inP_case]
  simp only
  congr 1
  · by_cases c : n = 0 ∨ 64 ≤ at_
    · rw [if_pos c, if_neg (by omega)]
    · rw [if_neg c, if_pos (by omega)]
      have e : max at_ 0 = at_ := by omega
      simp only [e]
      congr 2; omega
  · by_cases c : n = 0 ∨ at_ + n ≤ 64
    · rw [if_pos c, if_neg (by omega)]
    · rw [if_neg c, if_pos (by omega)]
      have e : min (at_ + n) (64 + 64) = at_ + n := by omega
      simp only [e]
      congr 2; omega
def mayB (q1 q2 at_ n bit : Int) : Bool := decide ((n = 0 ∨ 64 ≤ at_ ∨ bitv q1 bit ≠ 0) ∧ (n = 0 ∨ at_ + n ≤ 64 ∨ bitv q2 bit ≠ 0))
section
variable {q1 q2 at_ n bit : Int}
theorem po_iff (h0 : 0 ≤ at_) (hn : 0 ≤ n) (hs : at_ + n ≤ 128) : PartsOk 128 (S2 q1 q2) at_ n bit ↔ mayB q1 q2 at_ n bit = true := by
  unfold PartsOk mayB
  rw [two_parts h0 hn hs, decide_eq_true_eq]
  by_cases c1 : n = 0 ∨ 64 ≤ at_
  · by_cases c2 : n = 0 ∨ at_ + n ≤ 64
    · have hz : n = 0 := by omega
      rw [if_pos c1, if_pos c2]
      subst hz
      simp [sumN]; omega
    · rw [if_pos c1, if_neg c2]
      have e : max at_ 64 = at_ := by omega
      simp [sumN, e]
      omega
  · by_cases c2 : n = 0 ∨ at_ + n ≤ 64
    · rw [if_neg c1, if_pos c2]
      have e : min (at_ + n) 64 = at_ + n := by omega
      simp [sumN, e]
      omega
    · rw [if_neg c1, if_neg c2]
      have e : min (at_ + n) 64 = 64 := by omega
      have e2 : max at_ 64 = 64 := by omega
      simp [sumN, e, e2]
      omega
theorem po_in (h0 : 0 ≤ at_) (hn : 0 ≤ n) (hs : at_ + n ≤ 128) : ∀ p ∈ (S2 q1 q2).flatMap (inP at_ n), p.v = 1 ∧ 0 ≤ p.f ∧ 0 ≤ p.n ∧ p.n ≤ 64 ∧ p.f + p.n ≤ 128 := by
  rw [two_parts h0 hn hs]
  intro p hp
  rcases List.mem_append.1 hp with hp | hp
  · split at hp
    · cases hp
    · rw [List.mem_singleton.1 hp]
      exact ⟨rfl, by simp only; omega, by simp only; omega, by simp only; omega, by simp only; omega⟩
  · split at hp
    · cases hp
    · rw [List.mem_singleton.1 hp]
      exact ⟨rfl, by simp only; omega, by simp only; omega, by simp only; omega, by simp only; omega⟩
theorem po_cnt : ((S2 q1 q2).flatMap (inP at_ n)).length ≤ 2 := by
  have := Reg.ins_len at_ n (S2 q1 q2)
  simpa [S2] using this
theorem rdp_one {F : List Fr} {fb c : Nat} {pl : PL} {p : Pc} (h : p.v = 1) : (rdp F [ob 128 fb c pl] p).length = p.n.toNat := by
  unfold rdp
  rw [h, ob_live]
  simp only
  rw [sub_len]
theorem po_len {F : List Fr} {fb c : Nat} {pl : PL} (h0 : 0 ≤ at_) (hn : 0 ≤ n) (hs : at_ + n ≤ 128) : ((((S2 q1 q2).flatMap (inP at_ n)).flatMap (rdp F [ob 128 fb c pl])).length : Int) = n := by
  rw [two_parts h0 hn hs]
  by_cases c1 : n = 0 ∨ 64 ≤ at_
  · by_cases c2 : n = 0 ∨ at_ + n ≤ 64
    · rw [if_pos c1, if_pos c2]
      simp; omega
    · rw [if_pos c1, if_neg c2, List.nil_append, List.flatMap_singleton, rdp_one rfl]
      simp only; omega
  · by_cases c2 : n = 0 ∨ at_ + n ≤ 64
    · rw [if_neg c1, if_pos c2, List.append_nil, List.flatMap_singleton, rdp_one rfl]
      simp only; omega
    · rw [if_neg c1, if_neg c2, List.flatMap_append, List.flatMap_singleton, List.flatMap_singleton, List.length_append, rdp_one rfl, rdp_one rfl]
      simp only; omega
theorem po_okp {fb c : Nat} {pl : PL} (h0 : 0 ≤ at_) (hn : 0 ≤ n) (hs : at_ + n ≤ 128) : ∀ p ∈ (S2 q1 q2).flatMap (inP at_ n), okp [ob 128 fb c pl] p := fun p hp => by
  obtain ⟨g1, g2, g3, g4, g5⟩ := po_in h0 hn hs p hp
  exact ⟨_, by rw [g1]; exact ob_live _ _ _ _, g2, g3, by omega, g5⟩
end
theorem prot_out (q1 q2 : Int) : (S2 q1 q2).flatMap (outP 0 128) = [] := rfl
theorem prot_in (q1 q2 : Int) : ((S2 q1 q2).flatMap (inP 0 128)).map (setp 3) = S2 3 3 := rfl
theorem prot_sum (q1 q2 : Int) : sumN ((S2 q1 q2).flatMap (inP 0 128)) = 128 := rfl
theorem perm_S2 {P : List Pc} {most : Int} (h : P.Perm (S2 3 3)) (ok : Rok 128 most P) : P = S2 3 3 := by
  have hl := h.length_eq
  match P, hl with
  | [x, y], _ =>
    have hup := ok.up
    rw [List.pairwise_cons] at hup
    have h1 := hup.1 y (by simp)
    have hx := h.mem_iff.1 (show x ∈ [x, y] by simp)
    have hy := h.mem_iff.1 (show y ∈ [x, y] by simp)
    have hn := (ok.all x (by simp)).n0
    unfold S2 at hx hy ⊢
    simp only [List.mem_cons, List.not_mem_nil, or_false] at hx hy
    rcases hx with rfl | rfl <;> rcases hy with rfl | rfl
    · simp at h1
    · rfl
    · simp at h1
    · simp at h1
section
variable {w0 w : World} {L : List HP} {K : Value → WP} {c3 c4 c5 c6 : Nat} {one two at_ n bit : Int}
theorem may_ok (h0 : 0 ≤ at_ ∧ at_ ≤ 128) (hn : 0 ≤ n ∧ n ≤ 128) (d : D w0 (cel c3 3 [.int .i64 one] :: cel c4 3 [.int .i64 two] :: cel c5 3 [.int .i64 at_] :: cel c6 3 [.int .i64 n] :: L) w)
    (k : ∀ w', D w0 (cel c3 3 [.int .i64 one] :: cel c4 3 [.int .i64 two] :: cel c5 3 [.int .i64 at_] :: cel c6 3 [.int .i64 n] :: L) w' → K (.bool (mayB one two at_ n bit)) w') :
    Cl pg 18 #[.int .i64 bit, .pointer (some ⟨c6, 0, none⟩), .pointer (some ⟨c5, 0, none⟩), .pointer (some ⟨c3, 0, none⟩), .pointer (some ⟨c4, 0, none⟩)] K w := by
  refine V.jacinthlaw10_SpaceGuards_c1_ok ?_
  unfold V.jacinthlaw10_SpaceGuards_c1
  have hw1 : IntKind.i64.wrap (at_ + n) = at_ + n := w64 (by omega) (by omega)
  have hk : ∀ x : Bool, mayB one two at_ n bit = x → K (.bool x) w := fun x e => by have := k w d; rwa [e] at this
  clear k
  unfold mayB at hk
  have e1 : iand .i64 one bit = bitv one bit := rfl
  have e2 : iand .i64 two bit = bitv two bit := rfl
  generalize bitv one bit = o at *
  generalize bitv two bit = t at *
  have hsq : ∀ {A B : Prop}, A → B → A ∧ B := fun a b => ⟨a, b⟩
  repeat' (first | (refine hsq (fun h => ?_) (fun h => ?_)) | (first | (simp +decide only [SEM]) | (apply ldm d; (focus ((repeat (first | exact .h _ | refine .t _ _ ?_)); done)); (focus rfl))) | (rw [hw1]) | (rw [e1]) | (rw [e2]))
  all_goals (refine hk _ ?_; (try rw [hw1] at *); (try rw [e1] at *); (try rw [e2] at *); first | exact decide_eq_true (by omega) | exact decide_eq_false (by omega) | (by_cases ht : t = 0 <;> simp [ht] <;> omega))
end
end Go.Proofs.Ytgkbbihaaichbaa

set_option maxRecDepth 100000
set_option maxHeartbeats 1600000
namespace Go.Proofs.Ytgkbbihaaichbaa
open Go Go.Jac
open Reg (Pc pc pc_len inP outP sumN insP PutOk Rok setp)
theorem and2 {A B : WP} {w : World} (a : A w) (b : B w) : And2 A B w := ⟨a, b⟩
/-- Behind the guards: protected anew, read and written. -/
def GT (bs c5 c6 : Nat) (K : Value → WP) : WP :=
  FnV pg (.func (.func 19) #[] #[]) #[.pointer (some ⟨bs, 0, none⟩), (.int .i64 0), (.int .i64 128), (.int .i64 3)] fun v155 =>
  BinI .neq v155 (.int .i64 0) fun v156 =>
  Cnd v156 (K (.bool false))
  (Ld1 (.pointer (some ⟨c5, 0, none⟩)) fun v159 =>
  Ld1 (.pointer (some ⟨c6, 0, none⟩)) fun v160 =>
  FnV pg (.func (.func 15) #[] #[]) #[.pointer (some ⟨bs, 0, none⟩), v159, v160] fun v161 =>
  Ext v161 0 fun _ =>
  Ext v161 1 fun v163 =>
  Drw <| QtC fun I =>
  QE I (fun KK => Ld1 (.pointer (some ⟨c5, 0, none⟩)) fun v166 =>
  KK v166) fun v166_1 =>
  QE I (fun KK => Ld1 (.pointer (some ⟨c6, 0, none⟩)) fun v167 =>
  KK v167) fun v167_1 =>
  MkSC 5 1 1 #[(.int .u8 0)] v167_1 v167_1 fun v168 =>
  CH I <|
  FnV pg (.func (.func 14) #[] #[]) #[.pointer (some ⟨bs, 0, none⟩), v166_1, v168] fun v169 =>
  QtC fun I =>
  QE I (fun KK => Ext v169 0 fun v170 =>
  KK v170) fun _ =>
  QE I (fun KK => Ext v169 1 fun v171 =>
  KK v171) fun v171_1 =>
  BinI .eql v163 (.int .i64 0) fun v173 =>
  Grd v173 true (BinI .eql v171_1 (.int .i64 0) fun v176 =>
  Grd v176 true (FnV pg (.func (.func 8) #[] #[]) #[] fun v179 =>
  K v179)
  (K (.bool false)))
  (K (.bool false)))
section
variable {w0 w : World} {L : List HP} {K : Value → WP} {b bs br c5 c6 fb c : Nat} {q1 q2 at_ : Int} {m N : Nat} {F : List Fr} {pl : PL} {B : Nat → Int}
theorem bit31g : bitv 3 1 ≠ 0 := by rw [show bitv 3 1 = 1 from by decide +kernel]; decide
theorem bit32g : bitv 3 2 ≠ 0 := by rw [show bitv 3 2 = 2 from by decide +kernel]; decide
theorem may3 {n : Int} {bit : Int} (h : bitv 3 bit ≠ 0) : mayB 3 3 at_ n bit = true := by unfold mayB; simp [h]
/-- Zeros written. -/
theorem gwrite (h0 : 0 ≤ at_) (hs : at_ + m ≤ 128) (hon : On 20 128 fb c F pl B N) (hN : N + 4 ≤ 20) (d : D w0 (Sp bs b br 128 4 :: Vs b 1 3 20 F [ob 128 fb c pl] :: Reg.Rg br 128 4 (S2 q1 q2) :: L) w) {sv : Value}
    (hz : D w0 (Rw 5 1 sv m (List.replicate m (.int .u8 0)) :: Sp bs b br 128 4 :: Vs b 1 3 20 F [ob 128 fb c pl] :: Reg.Rg br 128 4 (S2 q1 q2) :: L) w)
    (k : ∀ (kk e : Int) F' pl' B' w', (e = 0 ↔ mayB q1 q2 at_ m 2 = true) → (e = 0 → kk = m) → (e ≠ 0 → kk = 0) → On 20 128 fb c F' pl' B' (N + 4) → D w0 (Sp bs b br 128 4 :: Vs b 1 3 20 F' [ob 128 fb c pl'] :: Reg.Rg br 128 4 (S2 q1 q2) :: L) w' → K (.tuple #[.int .i64 kk, .int .i64 e]) w') :
    Cl pg 14 #[.pointer (some ⟨bs, 0, none⟩), .int .i64 at_, sv] K w := by
  clear d
  have hdl : (sub (fun _ => 0) 0 m).length = m := sub_len _ _ _
  rw [zeros_bI] at hz
  generalize sub (fun _ => (0 : Int)) 0 m = data at hz hdl
  subst hdl
  have hc := po_cnt (q1 := q1) (q2 := q2) (at_ := at_) (n := data.length)
  refine SWrite_ok (g := 2) (mx := 64) (data := data) ⟨by omega, by omega⟩ pg2 seesB_rw (by omega) hon (fun p hp => by
    obtain ⟨g1, g2, g3, g4, g5⟩ := po_in h0 (by omega) hs p hp
    exact ⟨g1, g2, g3, g4, g5⟩) (by omega) (by omega) hz (fun e w he hh d => ?_) fun hh F' pl' w hon' d => ?_
  · rw [po_iff h0 (by omega) hs] at hh
    exact k 0 e F pl B w ⟨fun h => absurd h he, fun h => absurd h hh⟩ (fun h => absurd h he) (fun _ => rfl) ⟨hon.vw, hon.bt, by have := hon.u; omega⟩ d.tail
  · rw [po_iff h0 (by omega) hs] at hh
    exact k data.length 0 F' pl' _ w ⟨fun _ => hh, fun _ => rfl⟩ (fun _ => rfl) (fun h => absurd rfl h) ⟨hon'.vw, hon'.bt, by have := hon'.u; omega⟩ d.tail
theorem gread (h0 : 0 ≤ at_) (hs : at_ + m ≤ 128) (hon : On 20 128 fb c F pl B N) (d : D w0 (Sp bs b br 128 4 :: Vs b 1 3 20 F [ob 128 fb c pl] :: Reg.Rg br 128 4 (S2 q1 q2) :: L) w)
    (k : ∀ (sv : Value) (n e : Int) (q : Option Addr) (len cc : Nat) w', (e = 0 ↔ mayB q1 q2 at_ m 1 = true) → sv = .slice q len cc → (e = 0 → len = m) → D w0 (Sp bs b br 128 4 :: Vs b 1 3 20 F [ob 128 fb c pl] :: Reg.Rg br 128 4 (S2 q1 q2) :: L) w' → K (.tuple #[sv, .int .i64 e]) w') :
    Cl pg 15 #[.pointer (some ⟨bs, 0, none⟩), .int .i64 at_, .int .i64 m] K w := by
  refine SRead_ok ⟨by omega, by omega⟩ ⟨by omega, by omega⟩ hon.vw (ob_ns _ _ _ _) d (fun e w he hh d => ?_) fun hh _ sv w d => ?_
  · have hh : ¬ mayB q1 q2 at_ m 1 = true := by
      rcases hh with hh | ⟨p, hp, hh⟩
      · rwa [po_iff h0 (by omega) hs] at hh
      · exact absurd (po_okp h0 (by omega) hs p hp) hh
    exact k _ 0 e none 0 0 w ⟨fun h => absurd h he, fun h => absurd h hh⟩ rfl (fun h => absurd h he) d
  · rw [po_iff h0 (by omega) hs] at hh
    obtain ⟨q, cc, e, -⟩ := Rw.shape d.1
    have hl := po_len (q1 := q1) (q2 := q2) (F := F) (fb := fb) (c := c) (pl := pl) (at_ := at_) (n := m) h0 (by omega) hs
    exact k sv 0 0 q _ cc w ⟨fun _ => hh, fun _ => rfl⟩ e (fun _ => by omega) d.tail
theorem GT_ok (h0 : 0 ≤ at_) (hs : at_ + m ≤ 128) (hon : On 20 128 fb c F pl B N) (hN : N + 4 ≤ 20)
    (d : D w0 (Sp bs b br 128 4 :: Vs b 1 3 20 F [ob 128 fb c pl] :: Reg.Rg br 128 4 (S2 q1 q2) :: cel c5 3 [.int .i64 at_] :: cel c6 3 [.int .i64 m] :: L) w) (k : ∀ w', D w0 L w' → K (.bool true) w') :
    GT bs c5 c6 K w := by
  unfold GT
  have aw : ∀ {L' : List HP} {w : World} {K' : Value → WP}, D w0 L' w → (∀ w', D w0 L' w' → K' (.bool true) w') → FnV pg (.func (.func 8) #[] #[]) #[] K' w := fun d k => fn00 (fun _ _ => rfl) (awake10_ok d k)
  refine fn40 (fun _ _ => rfl) (V.space_Space_Protect_ok ?_)
  unfold V.space_Space_Protect
  unfold Sp at d
  repeat (first | (simp +decide only [SEM]) | (apply ldm d; (focus ((repeat (first | exact .h _ | refine .t _ _ ?_)); done)); (focus rfl)))
  refine fn40 (fun _ _ => rfl) (Reg.Protect_ok ⟨⟨by omega, by omega⟩, ⟨by omega, by omega⟩, ⟨by omega, by omega⟩⟩ (D.sel [2] d) (fun s hs hh w d => ?_) fun _ _ P w hP d => ?_)
  · exfalso
    rw [prot_out, prot_sum] at hh
    have h1 : Reg.chkSt 128 0 128 = 0 := by decide +kernel
    have h2 : ((S2 q1 q2).flatMap (inP 0 128)).length = 2 := rfl
    rw [h1, h2] at hh
    simp at hh
  have ok := Reg.Rg.facts d
  rw [prot_out, prot_in, List.nil_append] at hP
  obtain rfl := perm_S2 hP ok
  have d : D w0 (Sp bs b br 128 4 :: Vs b 1 3 20 F [ob 128 fb c pl] :: Reg.Rg br 128 4 (S2 3 3) :: cel c5 3 [.int .i64 at_] :: cel c6 3 [.int .i64 m] :: L) w := D.sel [1, 2, 0] d
  repeat (first | (simp +decide only [SEM]) | (apply ldm d; (focus ((repeat (first | exact .h _ | refine .t _ _ ?_)); done)); (focus rfl)))
  refine fn30 (fun _ _ => rfl) (gread h0 hs hon d fun sv _ e q len cc w he hsv _ d => ?_)
  obtain rfl : e = 0 := he.2 (may3 bit31g)
  subst hsv
  repeat (first | refine drw d fun w d => ?_ | (simp +decide only [SEM]) | refine qt d ?_ | (apply qlm; (focus ((repeat (first | exact .h _ | refine .t _ _ ?_)); done)); (focus rfl)))
  refine mks1 (by omega) (by omega) d fun zv w d => ?_
  obtain ⟨zq, zc, hzv, -⟩ := Rw.shape d.1
  repeat (refine ch (D.tail d) ?_)
  refine fn30 (fun _ _ => rfl) (gwrite h0 hs hon hN d.tail d fun kk e F' pl' B' w he _ _ hon' d => ?_)
  obtain rfl : e = 0 := he.2 (may3 bit32g)
  refine qt d ?_
  refine qe_ext (v := .int .i64 kk) rfl ?_
  refine qe_ext (v := .int .i64 0) rfl ?_
  repeat (simp +decide only [SEM])
  exact aw d fun w d => k w d.tail.tail.tail.tail.tail
end
end Go.Proofs.Ytgkbbihaaichbaa

set_option maxRecDepth 100000
set_option maxHeartbeats 1600000
namespace Go.Proofs.Ytgkbbihaaichbaa
open Go Go.Jac
open Reg (Pc pc pc_len inP outP sumN insP PutOk Rok setp)
section
variable {w0 w : World} {L : List HP} {K : Value → WP} {one two at_ n : Int}
theorem sguards_law (hI : I64 one ∧ I64 two ∧ I64 at_ ∧ I64 n) (d : D w0 [Old w0] w) (k : ∀ w', D w0 [Old w0] w' → K (.bool true) w') :
    Cl pg 5 #[.agg #[.int .i64 one, .int .i64 two, .int .i64 at_, .int .i64 n]] K w := by
  refine V.jacinthlaw10_SpaceGuards_ok ?_
  unfold V.jacinthlaw10_SpaceGuards
  have aw : ∀ {L' : List HP} {w : World} {K' : Value → WP}, D w0 L' w → (∀ w', D w0 L' w' → K' (.bool true) w') → FnV pg (.func (.func 8) #[] #[]) #[] K' w := fun d k => fn00 (fun _ _ => rfl) (awake10_ok d k)
  simp only [cells_agg]
  refine d_new' [.int .i64 one, .int .i64 two, .int .i64 at_, .int .i64 n] rfl d fun c1 w d => ?_
  refine drw d fun w d => ?_
  intro vK hvK
  have fin : ∀ (c3 c4 c5 c6 : Nat) (w : World), D w0 [cel c3 3 [.int .i64 one], cel c4 3 [.int .i64 two], cel c5 3 [.int .i64 at_], cel c6 3 [.int .i64 0], cel c1 44 [.int .i64 one, .int .i64 two, .int .i64 at_, .int .i64 n], Old w0] w → vK [.int .i64 n, .pointer (some ⟨c3, 0, none⟩), .pointer (some ⟨c4, 0, none⟩), .pointer (some ⟨c5, 0, none⟩), .pointer (some ⟨c6, 0, none⟩)] w := by
    intro c3 c4 c5 c6 w d
    refine hvK _ _ fun _ => ?_
    clear hvK
    simp only [UN]
    repeat (apply swm d; (focus ((repeat (first | exact .h _ | apply Rp.t)); done)); (focus rfl); (focus rfl); (focus exact ones rfl); intro w d; simp only [SPL] at d)
    refine fn20 (fun _ _ => rfl) (VNew_ok (cap := 20) (n := 3) (by omega) (by omega) d fun b w d => ?_)
    have hd : ∀ w, D w0 [Vs b 0 3 20 [] [], cel c3 3 [.int .i64 one], cel c4 3 [.int .i64 two], cel c5 3 [.int .i64 at_], cel c6 3 [.int .i64 n], cel c1 44 [.int .i64 one, .int .i64 two, .int .i64 at_, .int .i64 n], Old w0] w → FnV pg (.func (.func 8) #[] #[]) #[] K w := fun w d => aw d fun w d => k w (D.only [6] d)
    repeat (first | (simp +decide only [SEM]) | (apply ldm d; (focus ((repeat (first | exact .h _ | refine .t _ _ ?_)); done)); (focus rfl)))
    refine ⟨fun h1 => ?_, fun _ => ?_⟩
    rotate_left
    · skip
      exact hd w d
    repeat (first | (simp +decide only [SEM]) | (apply ldm d; (focus ((repeat (first | exact .h _ | refine .t _ _ ?_)); done)); (focus rfl)))
    refine ⟨fun h2 => ?_, fun _ => ?_⟩
    rotate_left
    · skip
      exact hd w d
    repeat (first | (simp +decide only [SEM]) | (apply ldm d; (focus ((repeat (first | exact .h _ | refine .t _ _ ?_)); done)); (focus rfl)))
    refine ⟨fun h3 => ?_, fun _ => ?_⟩
    rotate_left
    · skip
      exact hd w d
    repeat (first | (simp +decide only [SEM]) | (apply ldm d; (focus ((repeat (first | exact .h _ | refine .t _ _ ?_)); done)); (focus rfl)))
    refine ⟨fun h4 => ?_, fun _ => ?_⟩
    rotate_left
    · skip
      exact hd w d
    repeat (first | (simp +decide only [SEM]) | (apply ldm d; (focus ((repeat (first | exact .h _ | refine .t _ _ ?_)); done)); (focus rfl)))
    refine ⟨fun h5 => ?_, fun _ => ?_⟩
    rotate_left
    · skip
      exact hd w d
    repeat (first | (simp +decide only [SEM]) | (apply ldm d; (focus ((repeat (first | exact .h _ | refine .t _ _ ?_)); done)); (focus rfl)))
    refine ⟨fun h6 => ?_, fun _ => ?_⟩
    rotate_left
    · skip
      exact hd w d
    repeat (first | (simp +decide only [SEM]) | (apply ldm d; (focus ((repeat (first | exact .h _ | refine .t _ _ ?_)); done)); (focus rfl)))
    refine ⟨fun h7 => ?_, fun _ => ?_⟩
    rotate_left
    · skip
      exact hd w d
    repeat (first | (simp +decide only [SEM]) | (apply ldm d; (focus ((repeat (first | exact .h _ | refine .t _ _ ?_)); done)); (focus rfl)))
    have hw0 : IntKind.i64.wrap (128 - at_) = 128 - at_ := w64 (by omega) (by omega)
    rw [hw0]
    refine ⟨fun _ => ?_, fun h8 => ?_⟩
    · skip
      exact hd w d
    clear hd
    refine fn20 (fun _ _ => rfl) (first_ok (by omega) (by omega) (by omega) (sz := 128) rfl d fun fb c w d => ?_)
    have on0 : On 20 128 fb c [] [] (fun _ => 0) 0 := On.new (by omega) (by omega)
    repeat (simp +decide only [SEM])
    refine fn30 (fun _ _ => rfl) (SNew_ok (by omega) rfl (by omega) d fun bs br w d => ?_)
    have d : D w0 [Sp bs b br 128 4, Vs b 1 3 20 [] [ob 128 fb c []], Reg.Rg br 128 4 [], cel c3 3 [.int .i64 one], cel c4 3 [.int .i64 two], cel c5 3 [.int .i64 at_], cel c6 3 [.int .i64 n], cel c1 44 [.int .i64 one, .int .i64 two, .int .i64 at_, .int .i64 n], Old w0] w := D.sel [0, 2] d
    repeat (first | (simp +decide only [SEM]) | (apply ldm d; (focus ((repeat (first | exact .h _ | refine .t _ _ ?_)); done)); (focus rfl)))
    refine fn60 (fun _ _ => rfl) (Map_ok (at_ := 0) (n := 64) (id := 1) (fr := 0) (prot := one) ⟨⟨by omega, by omega⟩, ⟨by omega, by omega⟩, ⟨by omega, by omega⟩, ⟨by omega, by omega⟩, hI.1⟩ on0.vw (by simp) d (fun e w he hh d => ?_) fun x p1 w hx _ _ _ ha _ _ d => ?_)
    · exfalso
      rcases hh with hh | hh | hh | ⟨x, hx, hh⟩ | ⟨hh, -⟩ | ⟨p, ha, -, hh⟩
      · rw [ob_live] at hh; cases hh
      · omega
      · omega
      · rw [ob_live] at hx
        obtain rfl := Option.some.inj hx
        have hh : (128 : Int) < 0 + 64 := hh
        omega
      · omega
      · rw [ha (by omega)] at hh
        exact hh ⟨by simp, by simp, by simp, by simp, by simp, by simp, by simp, ⟨by show 0 ≤ one; omega, by show one ≤ 3; omega⟩, by simp, by simp⟩
    obtain rfl := ha (by omega)
    have d : D w0 [Sp bs b br 128 4, Vs b 1 3 20 [] [ob 128 fb c []], Reg.Rg br 128 4 [⟨0, 64, 1, 0, one⟩], cel c3 3 [.int .i64 one], cel c4 3 [.int .i64 two], cel c5 3 [.int .i64 at_], cel c6 3 [.int .i64 n], cel c1 44 [.int .i64 one, .int .i64 two, .int .i64 at_, .int .i64 n], Old w0] w := d
    repeat (first | (simp +decide only [SEM]) | (apply ldm d; (focus ((repeat (first | exact .h _ | refine .t _ _ ?_)); done)); (focus rfl)))
    refine fn60 (fun _ _ => rfl) (Map_ok (at_ := 64) (n := 64) (id := 1) (fr := 64) (prot := two) ⟨⟨by omega, by omega⟩, ⟨by omega, by omega⟩, ⟨by omega, by omega⟩, ⟨by omega, by omega⟩, hI.2.1⟩ on0.vw (fun y hy => by rw [List.mem_singleton.1 hy]; exact ⟨by simp, by simp⟩) d (fun e w he hh d => ?_) fun x p1 w hx _ _ _ ha _ _ d => ?_)
    · exfalso
      rcases hh with hh | hh | hh | ⟨x, hx, hh⟩ | ⟨hh, -⟩ | ⟨p, ha, -, hh⟩
      · rw [ob_live] at hh; cases hh
      · omega
      · omega
      · rw [ob_live] at hx
        obtain rfl := Option.some.inj hx
        have hh : (128 : Int) < 64 + 64 := hh
        omega
      · omega
      · rw [ha (by omega)] at hh
        refine hh ⟨by simp, by simp, by simp, by simp, by simp, by simp, by simp, ⟨by show 0 ≤ two; omega, by show two ≤ 3; omega⟩, fun y hy => ?_, by simp⟩
        rw [List.mem_singleton.1 hy]; unfold Reg.ovB; simp
    obtain rfl := ha (by omega)
    have hins : insP [⟨0, 64, 1, 0, one⟩] ⟨64, 64, 1, 64, two⟩ = S2 one two := ins_end fun y hy => by rw [List.mem_singleton.1 hy]; simp
    rw [hins] at d
    have d : D w0 [Sp bs b br 128 4, Vs b 1 3 20 [] [ob 128 fb c []], Reg.Rg br 128 4 (S2 one two), cel c3 3 [.int .i64 one], cel c4 3 [.int .i64 two], cel c5 3 [.int .i64 at_], cel c6 3 [.int .i64 n], cel c1 44 [.int .i64 one, .int .i64 two, .int .i64 at_, .int .i64 n], Old w0] w := d
    obtain ⟨m, rfl⟩ : ∃ m : Nat, n = m := ⟨n.toNat, by omega⟩
    repeat (first | (simp +decide only [SEM]) | (apply ldm d; (focus ((repeat (first | exact .h _ | refine .t _ _ ?_)); done)); (focus rfl)))
    refine fn30 (fun _ _ => rfl) (gread (by omega) (by omega) on0 d fun sv _ e q len cc w he hsv hlen d => ?_)
    subst hsv
    repeat (first | refine drw d fun w d => ?_ | (simp +decide only [SEM]) | refine qt d ?_ | (apply qlm; (focus ((repeat (first | exact .h _ | refine .t _ _ ?_)); done)); (focus rfl)))
    refine mks1 (by omega) (by omega) d fun zv w d => ?_
    obtain ⟨zq, zc, hzv, -⟩ := Rw.shape d.1
    repeat (refine ch (D.tail d) ?_)
    refine fn30 (fun _ _ => rfl) (gwrite (by omega) (by omega) on0 (by omega) d.tail d fun kk e2 F' pl' B' w he2 hk1 hk2 hon d => ?_)
    refine qt d ?_
    refine qe_ext (v := .int .i64 kk) rfl ?_
    refine qe_ext (v := .int .i64 e2) rfl ?_
    have tl : ∀ w, D w0 [Sp bs b br 128 4, Vs b 1 3 20 F' [ob 128 fb c pl'], Reg.Rg br 128 4 (S2 one two), cel c5 3 [.int .i64 at_], cel c6 3 [.int .i64 (m : Int)], cel c3 3 [.int .i64 one], cel c4 3 [.int .i64 two], cel c1 44 [.int .i64 one, .int .i64 two, .int .i64 at_, .int .i64 (m : Int)], Old w0] w → GT bs c5 c6 K w := fun w d => GT_ok (by omega) (by omega) hon (by omega) d fun w d => k w (D.only [3] d)
    have m1 : (decide (e = 0) == mayB one two at_ m 1) = true := by
      cases hb : mayB one two at_ m 1 with
      | true => rw [decide_eq_true (he.2 hb)]; rfl
      | false => rw [decide_eq_false fun h => by rw [he.1 h] at hb; cases hb]; rfl
    have m2 : (decide (e2 = 0) == mayB one two at_ m 2) = true := by
      cases hb : mayB one two at_ m 2 with
      | true => rw [decide_eq_true (he2.2 hb)]; rfl
      | false => rw [decide_eq_false fun h => by rw [he2.1 h] at hb; cases hb]; rfl
    clear he he2 on0
    have hsq : ∀ {A B : Prop}, A → B → A ∧ B := fun a b => ⟨a, b⟩
    repeat (simp +decide only [SEM])
    refine fn14 (fun _ _ => rfl) (may_ok (by omega) (by omega) (D.sel [3, 4, 5, 6] d) fun w d => ?_)
    repeat (simp +decide only [SEM])
    refine ⟨fun _ => ?_, fun h => by rw [m1] at h; cases h⟩
    refine fn14 (fun _ _ => rfl) (may_ok (by omega) (by omega) d fun w d => ?_)
    repeat (simp +decide only [SEM])
    refine ⟨fun _ => ?_, fun h => by rw [m2] at h; cases h⟩
    clear m1 m2
    have d : D w0 [cel c3 3 [.int .i64 one], cel c4 3 [.int .i64 two], cel c5 3 [.int .i64 at_], cel c6 3 [.int .i64 (m : Int)], Sp bs b br 128 4, Vs b 1 3 20 F' [ob 128 fb c pl'], Reg.Rg br 128 4 (S2 one two), cel c1 44 [.int .i64 one, .int .i64 two, .int .i64 at_, .int .i64 (m : Int)], Old w0] w := d
    have tl := tl w (D.sel [4, 5, 6, 2, 3, 0, 1] d)
    repeat' (first | exact tl | (refine hsq (fun h => ?_) (fun h => ?_)) | (first | (simp +decide only [SEM]) | (apply ldm d; (focus ((repeat (first | exact .h _ | refine .t _ _ ?_)); done)); (focus rfl))))
    all_goals (exfalso; omega)
  clear hvK
  refine qt d ?_
  repeat (first | refine qe_nil ?_ | (apply qlm; (focus ((repeat (first | exact .h _ | refine .t _ _ ?_)); done)); (focus rfl)))
  repeat' (first | refine ch d.tail.tail.tail.tail ?_ | refine ch d.tail.tail.tail ?_ | refine ch d.tail.tail ?_ | refine ch d.tail ?_ | (first | (refine d_new _ d fun bn w d => ?_) | (apply swm d; (focus ((repeat (first | exact .h _ | apply Rp.t)); done)); (focus rfl); (focus rfl); (focus exact ones rfl); intro w d; simp only [SPL] at d)) | refine and2 ?_ ?_)
  all_goals (refine fin _ _ _ _ w ?_; first
    | exact D.sel [0, 1, 2, 3] d
    | exact D.sel [0, 1, 3, 2] d
    | exact D.sel [0, 2, 1, 3] d
    | exact D.sel [0, 2, 3, 1] d
    | exact D.sel [0, 3, 1, 2] d
    | exact D.sel [0, 3, 2, 1] d
    | exact D.sel [1, 0, 2, 3] d
    | exact D.sel [1, 0, 3, 2] d
    | exact D.sel [1, 2, 0, 3] d
    | exact D.sel [1, 2, 3, 0] d
    | exact D.sel [1, 3, 0, 2] d
    | exact D.sel [1, 3, 2, 0] d
    | exact D.sel [2, 0, 1, 3] d
    | exact D.sel [2, 0, 3, 1] d
    | exact D.sel [2, 1, 0, 3] d
    | exact D.sel [2, 1, 3, 0] d
    | exact D.sel [2, 3, 0, 1] d
    | exact D.sel [2, 3, 1, 0] d
    | exact D.sel [3, 0, 1, 2] d
    | exact D.sel [3, 0, 2, 1] d
    | exact D.sel [3, 1, 0, 2] d
    | exact D.sel [3, 1, 2, 0] d
    | exact D.sel [3, 2, 0, 1] d
    | exact D.sel [3, 2, 1, 0] d)
end
end Go.Proofs.Ytgkbbihaaichbaa
