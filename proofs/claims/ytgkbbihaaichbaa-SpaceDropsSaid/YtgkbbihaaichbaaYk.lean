/- Several texts of this session's own, joined: Eg. -/
import Derived.Test.YtgkbbihaaichbaaYg
import Derived.Test.YtgkbbihaaichbaaYj
set_option maxRecDepth 100000
set_option maxHeartbeats 1600000
namespace Go.Proofs.Ytgkbbihaaichbaa
open Go Go.Jac
open Reg (Pc pc pc_len inP sumN insP PutOk Rok)
theorem bit31' : bitv 3 1 = 1 := by decide +kernel
theorem chn_split : ∀ {P R : List Pc} {a e : Int}, Chn a (P ++ R) e → ∃ m, Chn a P m ∧ Chn m R e
  | [], R, a, e, h => ⟨a, rfl, h⟩
  | x :: P, R, a, e, ⟨h1, h2, h3⟩ => by
    obtain ⟨m, g1, g2⟩ := chn_split h3
    exact ⟨m, ⟨h1, h2, g1⟩, g2⟩
theorem inP_out {x : Pc} {at_ m : Int} (h : x.a + x.n ≤ at_ ∨ at_ + m ≤ x.a) : inP at_ m x = [] := by
  unfold Reg.inP
  have e : Reg.ovB x.a x.n at_ m = false := by unfold Reg.ovB; simp only [decide_eq_false_iff_not]; omega
  rw [e]; rfl
theorem inP_one {x : Pc} {at_ m : Int} (h1 : x.a ≤ at_) (h2 : at_ + m ≤ x.a + x.n) (hm : 0 < m) (ha : 0 ≤ x.a) : inP at_ m x = [⟨at_, m, x.v, x.f + (at_ - x.a), x.p⟩] := by
  unfold Reg.inP
  have e : Reg.ovB x.a x.n at_ m = true := by unfold Reg.ovB; simp only [decide_eq_true_eq]; omega
  rw [if_pos e]
  unfold Reg.part
  have e1 : max at_ x.a = at_ := by omega
  have e2 : min (at_ + m) (x.a + x.n) = at_ + m := by omega
  simp only [e1, e2]
  congr 2
  omega
/-- A range within one of pieces that lie side by side. -/
theorem chn_part {P R : List Pc} {x : Pc} {e at_ m : Int} (h : Chn 0 (P ++ x :: R) e) (h1 : x.a ≤ at_) (h2 : at_ + m ≤ x.a + x.n) (hm : 0 < m) : (P ++ x :: R).flatMap (inP at_ m) = [⟨at_, m, x.v, x.f + (at_ - x.a), x.p⟩] := by
  obtain ⟨c, g1, g2, g3, g4⟩ := chn_split h
  obtain ⟨i0, i1⟩ := chn_in g1
  obtain ⟨-, i2⟩ := chn_in g4
  rw [List.flatMap_append, List.flatMap_cons, List.flatMap_eq_nil_iff.2 fun y hy => inP_out (.inl (by have := i1 y hy; omega)), List.flatMap_eq_nil_iff.2 fun y hy => inP_out (.inr (by have := i2 y hy; omega)), List.nil_append, List.append_nil, inP_one h1 h2 hm (by omega)]
def Sd (n : Nat) : List Pc := (List.range n).map fun (j : Nat) => ⟨64 * (j : Int), 64, (j : Int) + 1, 0, 3⟩
theorem Sd_len (n : Nat) : (Sd n).length = n := by simp [Sd]
theorem Sd_succ (n : Nat) : Sd (n + 1) = Sd n ++ [⟨64 * (n : Int), 64, n + 1, 0, 3⟩] := by simp [Sd, List.range_succ]
theorem Sd_chn : ∀ n, Chn 0 (Sd n) (64 * n)
  | 0 => rfl
  | n + 1 => by
    rw [Sd_succ]
    have := chn_app (x := ⟨64 * (n : Int), 64, n + 1, 0, 3⟩) (Sd_chn n) rfl (by simp)
    rw [show (64 * ((n + 1 : Nat) : Int)) = 64 * n + 64 by omega]
    exact this
theorem Sd_uses (a : Int) (ha : 1 ≤ a) : ∀ n : Nat, ((Sd n).filter fun p => decide (p.v = a)).length = if a ≤ n then 1 else 0
  | 0 => by rw [if_neg (by omega)]; rfl
  | n + 1 => by
    rw [Sd_succ, List.filter_append, List.length_append, Sd_uses a ha n]
    by_cases h : (n : Int) + 1 = a
    · rw [if_neg (by omega), if_pos (by omega)]; simp [h]
    · have : ((([⟨64 * (n : Int), 64, n + 1, 0, 3⟩] : List Pc)).filter fun p => decide (p.v = a)) = [] := by simp [h]
      rw [this]
      by_cases h2 : a ≤ n
      · rw [if_pos h2, if_pos (by omega)]; rfl
      · rw [if_neg h2, if_neg (by omega)]; rfl
theorem Sd_v (n : Nat) : ∀ p ∈ Sd n, 1 ≤ p.v ∧ p.v ≤ n := fun p hp => by
  obtain ⟨j, hj, rfl⟩ := List.mem_map.1 hp
  have := List.mem_range.1 hj
  show 1 ≤ (j : Int) + 1 ∧ (j : Int) + 1 ≤ n
  omega
theorem Sd_at {n j : Nat} (h : j < n) (T : List Pc) : ∃ P R, Sd n ++ T = P ++ ⟨64 * (j : Int), 64, j + 1, 0, 3⟩ :: R := by
  have hl : j < (Sd n).length := by rw [Sd_len]; exact h
  have e : (Sd n)[j] = ⟨64 * (j : Int), 64, j + 1, 0, 3⟩ := by simp [Sd]
  refine ⟨(Sd n).take j, (Sd n).drop (j + 1) ++ T, ?_⟩
  rw [← e, ← List.cons_append, ← List.append_assoc, ← List.drop_eq_getElem_cons hl, List.take_append_drop]
/-- Objects of one page, without children. -/
structure Rt (i : Nat) (M : List Vo) : Prop where
  vw : VW 20 [] M
  ei : EI (fun _ => False) i M
  n : M.length = i
  al : ∀ x ∈ M, x.ch = [] ∧ x.dr = false ∧ x.sl = false ∧ x.size = 64
  has : ∀ a : Int, 1 ≤ a → a ≤ i → ∃ x, vfind M a = some x
theorem Rt.nil : Rt 0 [] := ⟨VW.nil (by omega), EI.nil, rfl, by simp, fun a h1 h2 => by omega⟩
theorem Rt.no {i : Nat} {M : List Vo} (h : Rt i M) {a : Int} (ha : a = 0 ∨ a = i + 1) : vfind M a = none := by
  cases e : vfind M a with
  | none => rfl
  | some x => have := h.ei.ids a x e; omega
theorem Rt.new {i : Nat} {M : List Vo} {fb c : Nat} (h : Rt i M) : Rt (i + 1) (newV (i + 1) 64 fb c :: M) := by
  have ea : addM M (newV (i + 1) 64 fb c) (.slice none 0 0) = newV (i + 1) 64 fb c :: M := by
    unfold addM
    rw [show (newV (i + 1) 64 fb c).parent = 0 from rfl, h.no (.inl rfl)]
  refine ⟨h.vw.new (h.no (.inr rfl)) (by omega), ?_, by rw [List.length_cons, h.n], fun x hx => ?_, fun a h1 h2 => ?_⟩
  · rw [← ea]
    exact h.ei.add (by omega) rfl rfl rfl (.inl rfl)
  · rcases List.mem_cons.1 hx with rfl | hx
    · exact ⟨rfl, rfl, rfl, rfl⟩
    · exact h.al x hx
  · rw [vfind_cons]
    split
    · exact ⟨_, rfl⟩
    · rename_i hne
      have hne : ¬ ((i : Int) + 1 = a) := hne
      exact h.has a h1 (by omega)
section
variable {w0 w : World} {L : List HP} {K : Value → WP} {n at_ : Int}
theorem sdrops_law (hnI : I64 n) (hat : I64 at_) (d : D w0 [Old w0] w) (k : ∀ w', D w0 [Old w0] w' → K (.bool true) w') :
    Cl pg 6 #[.int .i64 n, .int .i64 at_] K w := by
  refine V.jacinthlaw10_SpaceDrops_ok ?_
  unfold V.jacinthlaw10_SpaceDrops
  have aw : ∀ {L' : List HP} {w : World} {K' : Value → WP}, D w0 L' w → (∀ w', D w0 L' w' → K' (.bool true) w') → FnV pg (.func (.func 8) #[] #[]) #[] K' w := fun d k => fn00 (fun _ _ => rfl) (awake10_ok d k)
  refine fn20 (fun _ _ => rfl) (VNew_ok (cap := 20) (n := 10) (by omega) (by omega) d fun b w d => ?_)
  have hd : FnV pg (.func (.func 8) #[] #[]) #[] K w := aw d fun w d => k w d.tail
  repeat (simp +decide only [SEM])
  refine ⟨fun h1 => ⟨fun _ => hd, fun h2 => ?_⟩, fun _ => hd⟩
  clear hd
  refine fn30 (fun _ _ => rfl) (SNew_ok (by omega) rfl (by omega) d fun bs br w d => ?_)
  obtain ⟨N, rfl⟩ : ∃ N : Nat, n = N := ⟨n.toNat, by omega⟩
  have d : D w0 [Sp bs b br 1024 20, Vs b 0 10 20 [] [], Reg.Rg br 1024 20 [], Old w0] w := D.sel [0, 2] d
  repeat (simp +decide only [SEM])
  refine ⟨fun vs w' => ∃ (i : Nat) (M : List Vo) (u : Value), vs = [u, .int .i64 i] ∧ i ≤ N ∧ Rt i M ∧ D w0 [Sp bs b br 1024 20, Vs b i 10 20 [] M, Reg.Rg br 1024 20 (Sd i), Old w0] w',
    fun vs _ => match vs with | [_, .int _ i] => N - i.toNat | _ => 0, ⟨0, [], _, rfl, by omega, Rt.nil, d⟩, ?_⟩
  clear d
  rintro _ w ⟨i, M, u, rfl, hi, hM, d⟩ _
  simp only [UN]
  repeat (simp +decide only [SEM])
  refine ⟨fun hlt => ?_, fun hge => ?_⟩
  · have hw1 : IntKind.i64.wrap ((i : Int) + 1) = i + 1 := w64 (by omega) (by omega)
    have hw2 : IntKind.i64.wrap (64 * (i : Int)) = 64 * i := w64 (by omega) (by omega)
    refine fn20 (fun _ _ => rfl) (VCreate_ok (n := 64) (by omega) hM.vw.nd (by rw [hM.n]; omega) (by omega) (hM.no (.inr rfl)) (hM.no (.inl rfl)) (fun x hx => by rw [(hM.al x hx).1]; simp) (D.sel [1] d) fun fb c w d => ?_)
    have hM' := hM.new (fb := fb) (c := c)
    have d : D w0 [Sp bs b br 1024 20, Vs b ((i : Int) + 1) 10 20 [] (newV (i + 1) 64 fb c :: M), Reg.Rg br 1024 20 (Sd i), Old w0] w := d.swap
    have hl : live (newV (i + 1) 64 fb c :: M) ((i : Int) + 1) = some (newV (i + 1) 64 fb c) := by
      unfold live
      rw [vfind_cons, if_pos (show (newV ((i : Int) + 1) 64 fb c).id = i + 1 from rfl)]
      rfl
    have hp := plc_chn (size := 1024) (n := 64) (Sd_chn i) (by decide) (by decide)
    rw [if_pos (by omega)] at hp
    repeat (simp +decide only [SEM])
    refine fn60 (fun _ _ => rfl) (Map_ok (at_ := -1) (n := 64) (fr := 0) (prot := 3) ⟨⟨by omega, by omega⟩, ⟨by omega, by omega⟩, ⟨by omega, by omega⟩, ⟨by omega, by omega⟩, ⟨by omega, by omega⟩⟩ hM'.vw (fun y hy => by have := Sd_v i y hy; exact ⟨by omega, by omega⟩) d (fun e w he hh d => ?_) fun x a w hx _ _ _ _ ha _ d => ?_)
    · exfalso
      rcases hh with hh | hh | hh | ⟨x, hx, hh⟩ | ⟨-, hh⟩ | ⟨a, -, ha, hh⟩
      · rw [hl] at hh; cases hh
      · omega
      · omega
      · rw [hl] at hx
        obtain rfl := Option.some.inj hx
        have hh : (64 : Int) < 0 + 64 := hh
        omega
      · rw [hp] at hh; cases hh
      · have ha := ha rfl
        rw [hp] at ha
        obtain rfl := Option.some.inj ha
        refine hh ⟨by show 64 * (i : Int) % 64 = 0; omega, by simp, by simp, by show 0 ≤ 64 * (i : Int); omega, by simp, by show 64 * (i : Int) + 64 ≤ 1024; omega, by simp, by simp, fun y hy => ?_, by rw [Sd_len]; omega⟩
        have := (chn_in (Sd_chn i)).2 y hy
        unfold Reg.ovB
        simp only [decide_eq_false_iff_not]
        omega
    · have ha := ha rfl
      rw [hp] at ha
      obtain rfl := Option.some.inj ha
      have hins : insP (Sd i) ⟨64 * (i : Int), 64, i + 1, 0, 3⟩ = Sd (i + 1) := by
        rw [Sd_succ]
        exact ins_end fun y hy => by have := (chn_in (Sd_chn i)).2 y hy; show y.a < 64 * (i : Int); omega
      rw [hins] at d
      repeat (simp +decide only [SEM])
      rw [hw1, hw2]
      exact ⟨fun h => absurd rfl h, fun _ => ⟨⟨i + 1, _, u, by simp, by omega, hM', by rw [show (((i + 1 : Nat) : Int)) = i + 1 by omega]; exact d⟩, by omega⟩⟩
  · obtain rfl : i = N := by omega
    have hd : FnV pg (.func (.func 8) #[] #[]) #[] K w := aw d fun w d => k w d.tail.tail.tail
    refine ⟨fun h3 => ⟨fun _ => hd, fun h4 => ?_⟩, fun _ => hd⟩
    clear hd
    obtain ⟨x0, hx0⟩ := hM.has at_ (by omega) (by omega)
    have hl0 : live M at_ = some x0 := by unfold live; rw [hx0]; simp [(hM.al x0 (vfind_id hx0).2).2.1]
    refine fn20 (fun _ _ => rfl) (VDrop_ok hM.vw hM.ei hl0 (by rw [hM.n]; omega) (D.sel [1] d) fun F' M' E sv w hD d => ?_)
    have hns : ∀ id x, vfind M' id = some x → x.sl = false := fun id x hx => by
      obtain ⟨z, hz, _, h2, _⟩ := hD.kp id x hx
      rw [h2]; exact (hM.al z (vfind_id hz).2).2.2.1
    have hnone : live M' at_ = none := by
      have hnd := hD.pm.nodup_iff.2 hM.vw.nd
      rw [List.nodup_append] at hnd
      rcases hD.dr at_ x0 hx0 (.inr rfl) with h | ⟨z, h5, h6⟩
      · have : vfind M' at_ = none := by
          cases e : vfind M' at_ with
          | none => rfl
          | some z => exact absurd rfl (hnd.2.2 at_ h at_ (List.mem_map.2 ⟨z, (vfind_id e).2, (vfind_id e).1⟩))
        unfold live; rw [this]
      · unfold live; rw [h5]; simp [h6]
    have hlive : ∀ a : Int, 1 ≤ a → a ≤ i → a ≠ at_ → ∃ z, live M' a = some z ∧ z.size = 64 := fun a h5 h6 h7 => by
      obtain ⟨x, hx⟩ := hM.has a h5 h6
      have hm : a ∈ E ++ M'.map (·.id) := hD.pm.mem_iff.2 (List.mem_map.2 ⟨x, (vfind_id hx).2, (vfind_id hx).1⟩)
      rcases List.mem_append.1 hm with hm | hm
      · rcases hD.en a hm with h8 | ⟨z, h8, h9⟩
        · exact absurd h8 h7
        · rw [(hM.al z (vfind_id h8).2).2.1] at h9; cases h9
      · obtain ⟨z, hz, e⟩ := List.mem_map.1 hm
        have hz2 := vfind_mem hD.vw.nd hz
        rw [e] at hz2
        obtain ⟨y, hy, g1, _, g3⟩ := hD.kp a z hz2
        refine ⟨z, ?_, by rw [g1]; exact (hM.al y (vfind_id hy).2).2.2.2⟩
        unfold live
        rw [hz2]
        cases hdr : z.dr with
        | false => simp [hdr]
        | true =>
          rcases g3 hdr with g3 | g3
          · rw [(hM.al y (vfind_id hy).2).2.1] at g3; cases g3
          · exact absurd g3 h7
    have d : D w0 [Sp bs b br 1024 20, Vs b i 10 20 F' M', Reg.Rg br 1024 20 (Sd i), Old w0] w := (D.sel [2, 1] d |> fun d => (D.sel [2] d).tail)
    have hvw := hD.vw
    clear hD hM
    repeat (simp +decide only [SEM])
    refine ⟨fun vs w' => ∃ (j : Nat) (T : List Pc) (e : Int) (u : Value), vs = [u, .int .i64 j] ∧ j ≤ i ∧ Chn 0 (Sd i ++ T) e ∧ e ≤ 64 * ((i : Int) + j) ∧ e % 64 = 0 ∧ T.length ≤ j ∧ (∀ p ∈ T, p.v ≠ at_ ∧ 1 ≤ p.v ∧ p.v ≤ i) ∧ D w0 [Sp bs b br 1024 20, Vs b i 10 20 F' M', Reg.Rg br 1024 20 (Sd i ++ T), Old w0] w',
      fun vs _ => match vs with | [_, .int _ j] => i - j.toNat | _ => 0, ⟨0, [], 64 * i, _, rfl, by omega, by rw [List.append_nil]; exact Sd_chn i, by omega, by omega, by simp, by simp, by rw [List.append_nil]; exact d⟩, ?_⟩
    clear d
    rintro _ w ⟨j, T, e, u, rfl, hj, hch, he, he64, hTl, hT, d⟩ _
    simp only [UN]
    repeat (simp +decide only [SEM])
    refine ⟨fun hlt => ?_, fun hge => ?_⟩
    · have hw1 : IntKind.i64.wrap ((j : Int) + 1) = j + 1 := w64 (by omega) (by omega)
      have hw2 : IntKind.i64.wrap (64 * (j : Int)) = 64 * j := w64 (by omega) (by omega)
      rw [hw2]
      have hparts : (Sd i ++ T).flatMap (inP (64 * (j : Int)) 4) = [⟨64 * (j : Int), 4, j + 1, 0, 3⟩] := by
        obtain ⟨P, R, e1⟩ := Sd_at (n := i) (j := j) (by omega) T
        rw [e1] at hch ⊢
        have := chn_part (at_ := 64 * (j : Int)) (m := 4) hch (by show 64 * (j : Int) ≤ _; omega) (by show 64 * (j : Int) + 4 ≤ 64 * (j : Int) + 64; omega) (by omega)
        rw [this]
        simp
      have hPO : PartsOk 1024 (Sd i ++ T) (64 * (j : Int)) 4 1 := ⟨by omega, by omega, by omega, by omega, by rw [hparts]; rfl, by rw [hparts]; intro p hp; rw [List.mem_singleton.1 hp, bit31']; decide⟩
      have hokp : okp M' ⟨64 * (j : Int), 4, j + 1, 0, 3⟩ ↔ (j : Int) + 1 ≠ at_ := by
        constructor
        · rintro ⟨x, hx, -⟩ e2
          have hx : live M' ((j : Int) + 1) = some x := hx
          rw [e2, hnone] at hx; cases hx
        · intro h7
          obtain ⟨z, h8, h9⟩ := hlive ((j : Int) + 1) (by omega) (by omega) h7
          exact ⟨z, h8, by simp, by simp, by simp, by rw [h9]; simp⟩
      have hin := (chn_in hch).2
      have he0 := (chn_in hch).1
      have hvI : ∀ y ∈ Sd i ++ T, I64 y.v := fun y hy => by
        rcases List.mem_append.1 hy with hy | hy
        · have := Sd_v i y hy; exact ⟨by omega, by omega⟩
        · have := hT y hy; exact ⟨by omega, by omega⟩
      have hp := plc_chn (size := 1024) (n := 64) hch (by decide) (by decide)
      rw [if_pos (by omega)] at hp
      refine fn30 (fun _ _ => rfl) (Cl.mono (K := fun v w' => ∃ (sv : Value) (e1 : Int), v = .tuple #[sv, .int .i64 e1] ∧ (e1 = 0 ↔ (j : Int) + 1 ≠ at_) ∧ D w0 [Sp bs b br 1024 20, Vs b i 10 20 F' M', Reg.Rg br 1024 20 (Sd i ++ T), Old w0] w')
        (SRead_ok (n := 4) ⟨by omega, by omega⟩ ⟨by omega, by omega⟩ hvw hns d (fun e1 w he1 hh d => ?_) fun _ hall sv w d => ?_) ?_)
      · refine ⟨_, e1, rfl, ⟨fun h => absurd h he1, fun h => ?_⟩, d⟩
        rcases hh with hh | ⟨p, hp1, hh⟩
        · exact absurd hPO hh
        · rw [hparts] at hp1
          rw [List.mem_singleton.1 hp1] at hh
          exact absurd (hokp.2 h) hh
      · exact ⟨sv, 0, rfl, ⟨fun _ => hokp.1 (hall _ (by rw [hparts]; exact List.mem_singleton.2 rfl)), fun _ => rfl⟩, d.tail⟩
      clear d
      rintro _ w ⟨sv, e1, rfl, he1, d⟩
      repeat (simp +decide only [SEM])
      rw [hw1]
      refine fn60 (fun _ _ => rfl) (Cl.mono (K := fun v w' => ∃ (p e2 : Int) (T' : List Pc) (e' : Int), v = .tuple #[.int .i64 p, .int .i64 e2] ∧ (e2 = 0 ↔ (j : Int) + 1 ≠ at_) ∧ Chn 0 (Sd i ++ T') e' ∧ e' ≤ 64 * ((i : Int) + j + 1) ∧ e' % 64 = 0 ∧ T'.length ≤ j + 1 ∧ (∀ p ∈ T', p.v ≠ at_ ∧ 1 ≤ p.v ∧ p.v ≤ i) ∧ D w0 [Sp bs b br 1024 20, Vs b i 10 20 F' M', Reg.Rg br 1024 20 (Sd i ++ T'), Old w0] w')
        (Map_ok (at_ := -1) (n := 64) (fr := 0) (prot := 1) ⟨⟨by omega, by omega⟩, ⟨by omega, by omega⟩, ⟨by omega, by omega⟩, ⟨by omega, by omega⟩, ⟨by omega, by omega⟩⟩ hvw hvI d (fun e2 w he2 hh d => ?_) fun x p w hx _ _ _ _ ha _ d => ?_) ?_)
      · refine ⟨0, e2, T, e, rfl, ⟨fun h => absurd h he2, fun h7 => ?_⟩, hch, by omega, he64, by omega, hT, d⟩
        exfalso
        obtain ⟨z, h8, h9⟩ := hlive ((j : Int) + 1) (by omega) (by omega) h7
        rcases hh with hh | hh | hh | ⟨x, hx, hh⟩ | ⟨-, hh⟩ | ⟨p, -, ha, hh⟩
        · rw [h8] at hh; cases hh
        · omega
        · omega
        · rw [h8] at hx
          obtain rfl := Option.some.inj hx
          omega
        · rw [hp] at hh; cases hh
        · have ha := ha rfl
          rw [hp] at ha
          obtain rfl := Option.some.inj ha
          refine hh ⟨he64, by simp, by simp, he0, by simp, by show e + 64 ≤ 1024; omega, by simp, by simp, fun y hy => ?_, by rw [List.length_append, Sd_len]; omega⟩
          have := hin y hy
          unfold Reg.ovB
          simp only [decide_eq_false_iff_not]
          omega
      · have ha := ha rfl
        rw [hp] at ha
        obtain rfl := Option.some.inj ha
        have hne : (j : Int) + 1 ≠ at_ := fun e3 => by rw [e3, hnone] at hx; cases hx
        have hins : insP (Sd i ++ T) ⟨e, 64, j + 1, 0, 1⟩ = Sd i ++ (T ++ [⟨e, 64, j + 1, 0, 1⟩]) := by
          rw [← List.append_assoc]
          exact ins_end fun y hy => by have := hin y hy; show y.a < e; omega
        rw [hins] at d
        refine ⟨e, 0, T ++ [⟨e, 64, j + 1, 0, 1⟩], e + 64, rfl, ⟨fun _ => hne, fun _ => rfl⟩, by rw [← List.append_assoc]; exact chn_app (x := ⟨e, 64, j + 1, 0, 1⟩) hch rfl (by simp), by omega, by omega, by simp; omega, fun p hp2 => ?_, d⟩
        rcases List.mem_append.1 hp2 with hp2 | hp2
        · exact hT p hp2
        · rw [List.mem_singleton.1 hp2]
          exact ⟨hne, by show 1 ≤ (j : Int) + 1; omega, by show (j : Int) + 1 ≤ i; omega⟩
      clear d
      rintro _ w ⟨p, e2, T', e', rfl, he2, hch', he', he64', hTl', hT', d⟩
      repeat (simp +decide only [SEM])
      rw [hw1]
      have q1 : (decide (e1 = 0) == !decide ((j : Int) + 1 = at_)) = true := by by_cases h : (j : Int) + 1 = at_ <;> simp [h, he1]
      have q2 : (decide (e2 = 0) == !decide ((j : Int) + 1 = at_)) = true := by by_cases h : (j : Int) + 1 = at_ <;> simp [h, he2]
      exact ⟨fun _ => ⟨fun h => (by rw [q2] at h; cases h), fun _ => ⟨⟨j + 1, T', e', u, by simp, by omega, hch', by omega, he64', by omega, hT', d⟩, by omega⟩⟩, fun h => (by rw [q1] at h; cases h)⟩
    · obtain rfl : j = i := by omega
      refine fn20 (fun _ _ => rfl) (Uses_ok (D.sel [0, 2] d) fun w d => ?_)
      have e5 : ((Sd j ++ T).filter fun p => decide (p.v = at_)).length = 1 := by
        rw [List.filter_append, List.length_append, Sd_uses at_ (by omega), if_pos (by omega), List.filter_eq_nil_iff.2 fun p hp => by simp [(hT p hp).1]]
        rfl
      rw [e5]
      repeat (simp +decide only [SEM])
      exact aw d fun w d => k w (D.only [3] d)
end
end Go.Proofs.Ytgkbbihaaichbaa
