/- Several texts of this session's own, joined: Ef. -/
import Derived.Test.YtgkbbihaaichbaaYg
set_option maxRecDepth 100000
set_option maxHeartbeats 1600000
namespace Go.Proofs.Ytgkbbihaaichbaa
open Go Go.Jac
open Reg (Pc pc pc_len inP sumN insP PutOk Rok)
/-- One piece: its part. -/
theorem one_part {a n at_ m v f p : Int} (h1 : a ≤ at_) (h2 : at_ + m ≤ a + n) (hm : 0 < m) (ha : 0 ≤ a) (hn : 0 < n) : ([⟨a, n, v, f, p⟩] : List Pc).flatMap (inP at_ m) = [⟨at_, m, v, f + (at_ - a), p⟩] := by
  rw [List.flatMap_singleton]
  unfold Reg.inP
  have e : Reg.ovB a n at_ m = true := by unfold Reg.ovB; simp only [decide_eq_true_eq]; omega
  rw [if_pos e]
  unfold Reg.part
  have e1 : max at_ a = at_ := by omega
  have e2 : min (at_ + m) (a + n) = at_ + m := by omega
  simp only [e1, e2]
  congr 2
  omega
theorem no_part {S : List Pc} {at_ : Int} : S.flatMap (inP at_ 0) = [] := by
  rw [List.flatMap_eq_nil_iff]
  intro x _
  unfold Reg.inP
  have e : Reg.ovB x.a x.n at_ 0 = false := by unfold Reg.ovB; simp
  rw [e]; rfl
theorem bit11 : bitv 1 1 = 1 := by decide +kernel
theorem bit31 : bitv 3 1 = 1 := by decide +kernel
theorem bit32 : bitv 3 2 = 2 := by decide +kernel
theorem bit12 : bitv 1 2 = 0 := by decide +kernel
section
variable {w0 w : World} {L : List HP} {K : Value → WP} {sv : Value} {at_ fr : Int}
theorem ssees_law (hat : I64 at_) (hfr : I64 fr) (hr : Rd pg w0 36 [sv]) (d : D w0 [Old w0] w) (k : ∀ w', D w0 [Old w0] w' → K (.bool true) w') :
    Cl pg 4 #[sv, .int .i64 at_, .int .i64 fr] K w := by
  refine V.jacinthlaw10_SpaceSees_ok ?_
  unfold V.jacinthlaw10_SpaceSees
  have aw : ∀ {L' : List HP} {w : World} {K' : Value → WP}, D w0 L' w → (∀ w', D w0 L' w' → K' (.bool true) w') → FnV pg (.func (.func 8) #[] #[]) #[] K' w := fun d k => fn00 (fun _ _ => rfl) (awake10_ok d k)
  obtain ⟨l, hlm, hs, -⟩ := bytes_of hr
  refine fn20 (fun _ _ => rfl) (VNew_ok (cap := 64) (n := 4) (by omega) (by omega) d fun b w d => ?_)
  have hd : FnV pg (.func (.func 8) #[] #[]) #[] K w := aw d fun w d => k w d.tail
  repeat (simp +decide only [SEM])
  refine (hs _ _ (D.sel [1] d)).len ?_
  repeat (simp +decide only [SEM])
  refine ⟨fun hl => ⟨fun h1 => ⟨fun h2 => ⟨fun h3 => ⟨fun _ => hd, fun h4 => ?_⟩, fun _ => hd⟩, fun _ => hd⟩, fun _ => hd⟩, fun _ => hd⟩
  clear hd
  refine fn20 (fun _ _ => rfl) (first_ok (by omega) (by omega) (by omega) (sz := 1024) rfl d fun fb c w d => ?_)
  have on0 : On 64 1024 fb c [] [] (fun _ => 0) 0 := On.new (by omega) (by omega)
  repeat (simp +decide only [SEM])
  refine fn30 (fun _ _ => rfl) (SNew_ok (by omega) rfl (by omega) d fun bs br w d => ?_)
  refine fn30 (fun _ _ => rfl) (SNew_ok (by omega) rfl (by omega) d fun bt bq w d => ?_)
  have d : D w0 [Sp bs b br 2048 8, Vs b 1 4 64 [] [ob 1024 fb c []], Reg.Rg br 2048 8 [], Sp bt b bq 4096 8, Reg.Rg bq 4096 8 [], Old w0] w := D.sel [2, 4, 3] d
  obtain ⟨f, rfl⟩ : ∃ f : Nat, fr = f := ⟨fr.toNat, by omega⟩
  obtain ⟨a, rfl⟩ : ∃ a : Nat, at_ = a := ⟨at_.toNat, by omega⟩
  have hw1 : IntKind.i64.wrap (64 * (f : Int)) = 64 * f := w64 (by omega) (by omega)
  have hw2 : IntKind.i64.wrap (1024 + 64 * (f : Int)) = 1024 + 64 * f := w64 (by omega) (by omega)
  have hw3 : IntKind.i64.wrap (1024 + 64 * (f : Int) + a) = 1024 + 64 * f + a := w64 (by omega) (by omega)
  have hw4 : IntKind.i64.wrap (64 * (f : Int) + a) = 64 * f + a := w64 (by omega) (by omega)
  repeat (simp +decide only [SEM])
  rw [hw1]
  -- the first space: wherever there is room
  refine fn60 (fun _ _ => rfl) (Map_ok (at_ := -1) (n := 512) (id := 1) (prot := 3) ⟨⟨by omega, by omega⟩, ⟨by omega, by omega⟩, ⟨by omega, by omega⟩, ⟨by omega, by omega⟩, ⟨by omega, by omega⟩⟩ on0.vw (by simp) d (fun e w he hh d => ?_) fun x p1 w hx _ _ _ _ ha _ d => ?_)
  · exfalso
    rcases hh with hh | hh | hh | ⟨x, hx, hh⟩ | ⟨-, hh⟩ | ⟨p, -, ha, hh⟩
    · rw [ob_live] at hh; cases hh
    · omega
    · omega
    · rw [ob_live] at hx
      obtain rfl := Option.some.inj hx
      have hh : (1024 : Int) < 64 * f + 512 := hh
      omega
    · rw [plc_chn (S := []) (e := 0) rfl (by decide) (by decide)] at hh; cases hh
    · have ha := ha rfl
      rw [plc_chn (S := []) (e := 0) rfl (by decide) (by decide), if_pos (by decide)] at ha
      obtain rfl := Option.some.inj ha
      exact hh ⟨by simp, by simp, by show 64 * (f : Int) % 64 = 0; omega, by simp, by simp, by show (0 : Int) + 512 ≤ 2048; decide, ⟨by show 0 ≤ 64 * (f : Int); omega, by show 64 * (f : Int) ≤ 4294967296; omega⟩, ⟨by show (0 : Int) ≤ 3; decide, by show (3 : Int) ≤ 3; decide⟩, by simp, by simp⟩
  have ha := ha rfl
  rw [plc_chn (S := []) (e := 0) rfl (by decide) (by decide), if_pos (by decide)] at ha
  obtain rfl := Option.some.inj ha
  have d : D w0 [Sp bt b bq 4096 8, Vs b 1 4 64 [] [ob 1024 fb c []], Reg.Rg bq 4096 8 [], Sp bs b br 2048 8, Reg.Rg br 2048 8 [⟨0, 512, 1, 64 * f, 3⟩], Old w0] w := D.sel [3, 1, 4, 0, 2] d
  repeat (simp +decide only [SEM])
  -- the second one
  refine fn60 (fun _ _ => rfl) (Map_ok (at_ := 1024) (n := 1024) (id := 1) (fr := 0) (prot := 1) ⟨⟨by omega, by omega⟩, ⟨by omega, by omega⟩, ⟨by omega, by omega⟩, ⟨by omega, by omega⟩, ⟨by omega, by omega⟩⟩ on0.vw (by simp) d (fun e w he hh d => ?_) fun x p1 w hx _ _ _ ha _ _ d => ?_)
  · exfalso
    rcases hh with hh | hh | hh | ⟨x, hx, hh⟩ | ⟨hh, -⟩ | ⟨p, ha, -, hh⟩
    · rw [ob_live] at hh; cases hh
    · omega
    · omega
    · rw [ob_live] at hx
      obtain rfl := Option.some.inj hx
      have hh : (1024 : Int) < 0 + 1024 := hh
      omega
    · omega
    · rw [ha (by omega)] at hh
      exact hh ⟨by decide, by decide, by decide, by decide, by decide, by decide, by decide, by decide, by simp, by decide⟩
  obtain rfl := ha (by omega)
  have d : D w0 [Old w0, Sp bs b br 2048 8, Vs b 1 4 64 [] [ob 1024 fb c []], Reg.Rg br 2048 8 [⟨0, 512, 1, 64 * f, 3⟩], Sp bt b bq 4096 8, Reg.Rg bq 4096 8 [⟨1024, 1024, 1, 0, 1⟩]] w := D.sel [5, 3, 1, 4, 0] d
  repeat (simp +decide only [SEM])
  -- written
  have hparts : l.length = 0 ∨ ([⟨0, 512, 1, 64 * f, 3⟩] : List Pc).flatMap (inP (a : Int) l.length) = [⟨a, l.length, 1, 64 * f + a, 3⟩] := by
    by_cases h0 : l.length = 0
    · exact .inl h0
    · have := one_part (a := 0) (n := 512) (at_ := a) (m := l.length) (v := 1) (f := 64 * f) (p := 3) (by omega) (by omega) (by omega) (by omega) (by omega)
      rw [Int.sub_zero] at this
      exact .inr this
  refine fn30 (fun _ _ => rfl) (SWrite_ok (at_ := a) (data := l) ⟨by omega, by omega⟩ hs (by omega) on0 (S := [⟨0, 512, 1, 64 * f, 3⟩]) (fun p hp => ?_) ?_ (by omega) d (fun e w he hh d => ?_) fun hpo F' pl' w hon d => ?_)
  · rcases hparts with h0 | h0
    · rw [h0] at hp
      rw [show (((0 : Nat) : Int)) = 0 from rfl, no_part] at hp; cases hp
    · rw [h0] at hp
      rw [List.mem_singleton.1 hp]
      exact ⟨rfl, by show 0 ≤ 64 * (f : Int) + a; omega, by show 0 ≤ (l.length : Int); omega, by show 64 * (f : Int) + a + l.length ≤ 1024; omega⟩
  · have := Reg.ins_len (a : Int) l.length ([⟨0, 512, 1, 64 * f, 3⟩] : List Pc)
    simp only [List.length_singleton] at this
    omega
  · refine absurd ?_ hh
    rcases hparts with h0 | h0
    · rw [h0]
      rw [show (((0 : Nat) : Int)) = 0 from rfl]
      exact ⟨by omega, by omega, by omega, by omega, by rw [no_part]; rfl, by rw [no_part]; simp⟩
    · exact ⟨by omega, by omega, by omega, by omega, by rw [h0]; simp [sumN], by rw [h0]; intro p hp; rw [List.mem_singleton.1 hp, bit32]; decide⟩
  have hB : sub (byt F' pl') (64 * f + a) l.length = l := by
    rw [show byt F' pl' = wrL (fun _ => 0) (([⟨0, 512, 1, 64 * f, 3⟩] : List Pc).flatMap (inP (a : Int) l.length)) l from funext hon.bt]
    rcases hparts with h0 | h0
    · rw [List.eq_nil_of_length_eq_zero h0]; rfl
    · rw [h0]
      have e1 : (64 * (f : Int) + a).toNat = 64 * f + a := by omega
      show sub (wr (fun _ => 0) (64 * (f : Int) + a).toNat (l.take ((l.length : Int)).toNat)) (64 * f + a) l.length = l
      rw [e1, Int.toNat_natCast, List.take_length]
      exact sub_wr1
  have hul := hon.vw
  have hNl : (([⟨0, 512, 1, 64 * f, 3⟩] : List Pc).flatMap (inP (a : Int) l.length)).length ≤ 1 := by
    have := Reg.ins_len (a : Int) l.length ([⟨0, 512, 1, 64 * f, 3⟩] : List Pc)
    simpa using this
  have rd : ∀ (S : List Pc) (size at2 prot : Int), bitv prot 1 ≠ 0 → 0 ≤ at2 → at2 + l.length ≤ size → (l.length = 0 ∨ S.flatMap (inP at2 l.length) = [⟨at2, l.length, 1, 64 * f + a, prot⟩]) →
      PartsOk size S at2 l.length 1 ∧ (∀ p ∈ S.flatMap (inP at2 l.length), okp [ob 1024 fb c pl'] p) ∧ (S.flatMap (inP at2 l.length)).flatMap (rdp F' [ob 1024 fb c pl']) = l := by
    intro S size at2 prot hb h0 h1 hh
    rcases hh with hh | hh
    · rw [hh, show (((0 : Nat) : Int)) = 0 from rfl, no_part]
      refine ⟨⟨h0, by omega, by omega, by omega, by rw [no_part]; rfl, by rw [no_part]; simp⟩, by simp, ?_⟩
      rw [List.eq_nil_of_length_eq_zero hh]; rfl
    · rw [hh]
      refine ⟨⟨h0, by omega, by omega, h1, by rw [hh]; simp [sumN], by rw [hh]; intro p hp; rw [List.mem_singleton.1 hp]; exact hb⟩, fun p hp => ?_, ?_⟩
      · rw [List.mem_singleton.1 hp]
        exact ⟨_, ob_live _ _ _ _, by show 0 ≤ 64 * (f : Int) + a; omega, by show 0 ≤ (l.length : Int); omega, by show (l.length : Int) ≤ 4096; omega, by show 64 * (f : Int) + a + l.length ≤ 1024; omega⟩
      · rw [List.flatMap_singleton]
        show sub (byt F' pl') (64 * (f : Int) + a).toNat ((l.length : Int)).toNat = l
        rw [show (64 * (f : Int) + a).toNat = 64 * f + a by omega, Int.toNat_natCast]
        exact hB
  have hparts2 : l.length = 0 ∨ ([⟨1024, 1024, 1, 0, 1⟩] : List Pc).flatMap (inP (1024 + 64 * (f : Int) + a) l.length) = [⟨1024 + 64 * f + a, l.length, 1, 64 * f + a, 1⟩] := by
    by_cases h0 : l.length = 0
    · exact .inl h0
    · have := one_part (a := 1024) (n := 1024) (at_ := 1024 + 64 * (f : Int) + a) (m := l.length) (v := 1) (f := 0) (p := 1) (by omega) (by omega) (by omega) (by omega) (by omega)
      rw [show (0 : Int) + (1024 + 64 * (f : Int) + a - 1024) = 64 * f + a by omega] at this
      exact .inr this
  repeat (simp +decide only [SEM])
  refine (hs _ _ d).len ?_
  repeat (simp +decide only [SEM])
  refine (hs _ _ d).len ?_
  -- read through the first
  obtain ⟨g1, g2, g3⟩ := rd [⟨0, 512, 1, 64 * f, 3⟩] 2048 a 3 (by rw [bit31]; decide) (by omega) (by omega) hparts
  refine fn30 (fun _ _ => rfl) (SRead_ok (at_ := a) (n := l.length) ⟨by omega, by omega⟩ ⟨by omega, by omega⟩ hul (ob_ns _ _ _ _) (D.sel [1, 2, 3] d) (fun e w he hh d => ?_) fun _ _ sv1 w d => ?_)
  · exfalso
    rcases hh with hh | ⟨p, hp, hh⟩
    · exact hh g1
    · exact hh (g2 p hp)
  rw [g3] at d
  have d : D w0 [Old w0, Rw 5 1 sv1 l.length (l.flatMap bI), Sp bs b br 2048 8, Vs b 1 4 64 F' [ob 1024 fb c pl'], Reg.Rg br 2048 8 [⟨0, 512, 1, 64 * f, 3⟩], Sp bt b bq 4096 8, Reg.Rg bq 4096 8 [⟨1024, 1024, 1, 0, 1⟩]] w := D.sel [4] d
  repeat (simp +decide only [SEM])
  rw [hw1, hw2, hw3]
  refine (hs _ _ d).len ?_
  -- read through the second
  obtain ⟨g1, g2, g3⟩ := rd [⟨1024, 1024, 1, 0, 1⟩] 4096 (1024 + 64 * f + a) 1 (by rw [bit11]; decide) (by omega) (by omega) hparts2
  refine fn30 (fun _ _ => rfl) (SRead_ok (n := l.length) ⟨by omega, by omega⟩ ⟨by omega, by omega⟩ hul (ob_ns _ _ _ _) (D.sel [5, 3, 6] d) (fun e w he hh d => ?_) fun _ _ sv2 w d => ?_)
  · exfalso
    rcases hh with hh | ⟨p, hp, hh⟩
    · exact hh g1
    · exact hh (g2 p hp)
  rw [g3] at d
  have d : D w0 [Old w0, Rw 5 1 sv2 l.length (l.flatMap bI), Sp bt b bq 4096 8, Vs b 1 4 64 F' [ob 1024 fb c pl'], Reg.Rg bq 4096 8 [⟨1024, 1024, 1, 0, 1⟩], Rw 5 1 sv1 l.length (l.flatMap bI), Sp bs b br 2048 8, Reg.Rg br 2048 8 [⟨0, 512, 1, 64 * f, 3⟩]] w := D.sel [4] d
  repeat (simp +decide only [SEM])
  rw [hw1, hw4]
  refine (hs _ _ d).len ?_
  -- read in the object
  refine fn40 (fun _ _ => rfl) (VRead_ok (n := l.length) hul (D.sel [3] d) (fun e w he hno d => ?_) fun x' N y' yid t sv3 w hx' hb' hy' _ _ _ d => ?_)
  · exfalso
    rcases hno with hh | hh | hh | ⟨x', hx', hh⟩
    · rw [ob_live] at hh; cases hh
    · omega
    · omega
    · rw [ob_live] at hx'
      obtain rfl := Option.some.inj hx'
      exact hh ⟨by omega, by omega, by show 64 * (f : Int) + a ≤ 1024; omega, by show (l.length : Int) ≤ 1024 - (64 * (f : Int) + a); omega⟩
  rw [ob_live] at hx'
  obtain rfl := Option.some.inj hx'
  obtain ⟨-, rfl, rfl⟩ := hb'.flat rfl
  have e4 : sub (byt F' (ob 1024 fb c pl').pl) (0 + (64 * (f : Int) + a)).toNat ((l.length : Int)).toNat = l := by
    rw [show (0 + (64 * (f : Int) + a)).toNat = 64 * f + a by omega, Int.toNat_natCast]
    exact hB
  rw [e4, Int.toNat_natCast] at d
  have d : D w0 [Rw 5 1 sv3 l.length (l.flatMap bI), Vs b 1 4 64 F' [ob 1024 fb c pl'], Old w0, Rw 5 1 sv2 l.length (l.flatMap bI), Sp bt b bq 4096 8, Reg.Rg bq 4096 8 [⟨1024, 1024, 1, 0, 1⟩], Rw 5 1 sv1 l.length (l.flatMap bI), Sp bs b br 2048 8, Reg.Rg br 2048 8 [⟨0, 512, 1, 64 * f, 3⟩]] w := d
  repeat (first | (simp +decide only [SEM]) | refine bsl1 (by first | rfl | (simp only [cells_agg, cells_int, cells_bool, cells_ptr, cells_sl, cells_map, cells_fn, List.drop_succ_cons, List.drop_zero, List.take_succ_cons, List.take_zero, Nat.zero_add, Nat.reduceAdd, Int.toNat_natCast, Int.toNat_zero]; rfl)) rfl d (by decide) (by decide) fun bn w d => ?_)
  generalize bn = b4 at d ⊢
  have d : D w0 (cel b4 5 (([120] : List Int).flatMap bI) :: _) w := d
  refine mark_ok d fun w d => ?_
  have hx1 : ([⟨1024, 1024, 1, 0, 1⟩] : List Pc).flatMap (inP 1024 (([120] : List Int).length)) = [⟨1024, 1, 1, 0, 1⟩] := rfl
  refine fn30 (fun _ _ => rfl) (SWrite_ok (at_ := 1024) (data := [120]) ⟨by omega, by omega⟩ (seesB_mark (l := [120]) (by decide)) (by decide) hon (S := [⟨1024, 1024, 1, 0, 1⟩]) (fun p hp => ?_) (by rw [hx1, List.length_singleton]; omega) (by omega) (D.sel [0, 5, 2, 6] d) (fun e w he hh d => ?_) fun hpo F2 pl2 w _ d => ?_)
  · rw [hx1] at hp
    rw [List.mem_singleton.1 hp]
    exact ⟨rfl, by simp, by simp, by simp⟩
  rotate_left
  · exact absurd bit12 (hpo.2.2.2.2.2 ⟨1024, 1, 1, 0, 1⟩ (by rw [hx1]; exact List.mem_singleton.2 rfl))
  have d : D w0 [Old w0, Rw 5 1 sv3 l.length (l.flatMap bI), Rw 5 1 sv2 l.length (l.flatMap bI), Rw 5 1 sv1 l.length (l.flatMap bI), Sp bs b br 2048 8, Reg.Rg br 2048 8 [⟨0, 512, 1, 64 * f, 3⟩]] w := D.only [5, 4, 6, 7, 8, 9] d
  repeat (simp +decide only [SEM])
  refine ⟨fun _ => ?_, fun h => absurd h he⟩
  refine fn20 (fun _ _ => rfl) (Same_ok (seesB_rw _ _ (D.sel [3] d)) (hs _ _ d) ?_)
  repeat (simp +decide only [SEM])
  refine fn20 (fun _ _ => rfl) (Same_ok (seesB_rw _ _ (D.sel [2] d)) (hs _ _ d) ?_)
  repeat (simp +decide only [SEM])
  refine fn20 (fun _ _ => rfl) (Same_ok (seesB_rw _ _ (D.sel [1] d)) (hs _ _ d) ?_)
  repeat (simp +decide only [SEM])
  refine fn20 (fun _ _ => rfl) (Uses_ok (D.sel [4, 5] d) fun w d => ?_)
  repeat (simp +decide only [SEM])
  have e5 : ((([⟨0, 512, 1, 64 * f, 3⟩] : List Pc).filter fun p => decide (p.v = 1)).length : Int) = 1 := rfl
  rw [e5]
  repeat (simp +decide only [SEM])
  exact aw d fun w d => k w (D.only [2] d)
end
end Go.Proofs.Ytgkbbihaaichbaa
