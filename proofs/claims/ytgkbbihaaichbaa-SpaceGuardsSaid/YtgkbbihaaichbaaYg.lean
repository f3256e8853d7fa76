/- Several texts of this session's own, joined: Ea, Eb, Ec, Ed. -/
import Derived.Test.YtgkbbihaaichbaaYe
import Derived.Test.YtgkbbihaaichbaaYf
set_option maxRecDepth 100000
set_option maxHeartbeats 1600000
namespace Go.Proofs.Ytgkbbihaaichbaa
open Go Go.Jac
open Reg (Pc pc inP sumN insP PutOk Rok)
/-- A space's own cells. -/
def Sp (bs b br : Nat) (size most : Int) : HP := cel bs 64 [.pointer (some ⟨b, 0, none⟩), .pointer (some ⟨br, 0, none⟩), .int .i64 size, .int .i64 most]
/-- The least place, if there is one. -/
def plc (size n : Int) (S : List Pc) : Option Int := if 0 < n ∧ n % 64 = 0 then (match (Reg.placeG n S 0).1 with
  | some a => some a
  | none => if n ≤ size - (Reg.placeG n S 0).2 then some (Reg.placeG n S 0).2 else none) else none
section
variable {w0 w : World} {L : List HP} {K : Value → WP} {b bs br : Nat} {last mo cap size most : Int} {F : List Fr} {M : List Vo} {S : List Pc}
theorem SNew_ok (hs : 0 ≤ size ∧ size ≤ 4294967296) (h64 : size % 64 = 0) (hm : 0 ≤ most ∧ most ≤ 65536) (d : D w0 L w) (k : ∀ bs br w', D w0 (Sp bs b br size most :: Reg.Rg br size most [] :: L) w' → K (.pointer (some ⟨bs, 0, none⟩)) w') :
    Cl pg 10 #[.pointer (some ⟨b, 0, none⟩), .int .i64 size, .int .i64 most] K w := by
  refine V.space_New_ok ?_
  unfold V.space_New
  refine fn20 (fun _ _ => rfl) (Reg.New_ok hs h64 hm d fun br w d => ?_)
  repeat (first | (simp +decide only [SEM]) | (((repeat (refine bld_c rfl rfl (by simp) ?_; simp only [List.set_cons_zero, List.set_cons_succ])); refine bld_n ?_)) | (refine d_new _ d fun bn w d => ?_))
  exact k _ br w d
theorem Map_ok {at_ n id fr prot : Int} (hI : I64 at_ ∧ I64 n ∧ I64 id ∧ I64 fr ∧ I64 prot) (h : VW cap F M) (hv : ∀ y ∈ S, I64 y.v) (d : D w0 (Sp bs b br size most :: Vs b last mo cap F M :: Reg.Rg br size most S :: L) w)
    (k0 : ∀ e w', e ≠ 0 → (live M id = none ∨ n < 0 ∨ fr < 0 ∨ (∃ x, live M id = some x ∧ x.size < fr + n) ∨ (at_ = -1 ∧ plc size n S = none) ∨ ∃ a, (at_ ≠ -1 → a = at_) ∧ (at_ = -1 → plc size n S = some a) ∧ ¬ PutOk size most S ⟨a, n, id, fr, prot⟩) → D w0 (Sp bs b br size most :: Vs b last mo cap F M :: Reg.Rg br size most S :: L) w' → K (.tuple #[.int .i64 0, .int .i64 e]) w')
    (k1 : ∀ x a w', live M id = some x → 0 ≤ n → 0 ≤ fr → fr + n ≤ x.size → (at_ ≠ -1 → a = at_) → (at_ = -1 → plc size n S = some a) → PutOk size most S ⟨a, n, id, fr, prot⟩ → D w0 (Sp bs b br size most :: Vs b last mo cap F M :: Reg.Rg br size most (insP S ⟨a, n, id, fr, prot⟩) :: L) w' → K (.tuple #[.int .i64 a, .int .i64 0]) w') :
    Cl pg 11 #[.pointer (some ⟨bs, 0, none⟩), .int .i64 at_, .int .i64 n, .int .i64 id, .int .i64 fr, .int .i64 prot] K w := by
  refine V.space_Space_Map_ok ?_
  unfold V.space_Space_Map
  unfold Sp at d k0 k1
  have ok := Reg.Rg.facts (D.sel [2] d)
  repeat (first | (simp +decide only [SEM]) | (apply ldm d; (focus ((repeat (first | exact .h _ | refine .t _ _ ?_)); done)); (focus rfl)))
  cases hx : vfind M id with
  | none =>
    have hl : live M id = none := by unfold live; rw [hx]
    refine fn20 (fun _ _ => rfl) (VInfo_no hx (D.sel [1] d) fun w d => ?_)
    have d : D w0 (Vs b last mo cap F M :: cel bs 64 [.pointer (some ⟨b, 0, none⟩), .pointer (some ⟨br, 0, none⟩), .int .i64 size, .int .i64 most] :: Reg.Rg br size most S :: L) w := d
    repeat (first | (simp +decide only [SEM]) | (refine d_new _ d fun bn w d => ?_) | (apply swm d; (focus ((repeat (first | exact .h _ | apply Rp.t)); done)); (focus rfl); (focus rfl); (focus exact ones rfl); intro w d; simp only [SPL] at d))
    exact k0 _ w (by decide) (.inl hl) d.tail.swap
  | some x =>
    have hxs := h.sz x (vfind_id hx).2
    refine fn20 (fun _ _ => rfl) (VInfo_ok h.nd hx (h.hasf id x hx).2 (D.sel [1] d) fun w d => ?_)
    have d : D w0 (Vs b last mo cap F M :: cel bs 64 [.pointer (some ⟨b, 0, none⟩), .pointer (some ⟨br, 0, none⟩), .int .i64 size, .int .i64 most] :: Reg.Rg br size most S :: L) w := d
    repeat (first | (simp +decide only [SEM]) | (apply ldm d; (focus ((repeat (first | exact .h _ | refine .t _ _ ?_)); done)); (focus rfl)) | (refine d_new _ d fun bn w d => ?_) | (apply swm d; (focus ((repeat (first | exact .h _ | apply Rp.t)); done)); (focus rfl); (focus rfl); (focus exact ones rfl); intro w d; simp only [SPL] at d))
    cases hd : x.dr with
    | true =>
      have hl : live M id = none := by unfold live; rw [hx]; simp [hd]
      rw [hd] at d
      repeat (simp +decide only [SEM])
      exact k0 _ w (by decide) (.inl hl) d.tail.swap
    | false =>
    have hl : live M id = some x := by unfold live; rw [hx]; simp [hd]
    rw [hd] at d
    repeat (simp +decide only [SEM])
    refine ⟨fun h1 => ?_, fun h1 => k0 _ w (by decide) (.inr (.inl h1)) d.tail.swap⟩
    skip
    refine ⟨fun h2 => k0 _ w (by decide) (.inr (.inr (.inl h2))) d.tail.swap, fun h2 => ?_⟩
    repeat (apply ldm d; (focus ((repeat (first | exact .h _ | refine .t _ _ ?_)); done)); (focus rfl))
    refine fn30 (fun _ _ => rfl) (Reg.Within_ok ⟨by omega, by omega⟩ ?_)
    cases hw : decide (0 ≤ fr ∧ 0 ≤ n ∧ fr ≤ x.size ∧ n ≤ x.size - fr) with
    | false =>
      have hw := of_decide_eq_false hw
      repeat (simp +decide only [SEM])
      exact k0 _ w (by decide) (.inr (.inr (.inr (.inl ⟨x, hl, by omega⟩)))) d.tail.swap
    | true =>
    have hw := of_decide_eq_true hw
    repeat (simp +decide only [SEM])
    intro vK hvK
    have fin : ∀ (a : Int) (u1 u2 : Value) (w : World), (at_ ≠ -1 → a = at_) → (at_ = -1 → plc size n S = some a) → I64 a → D w0 (cel bs 64 [.pointer (some ⟨b, 0, none⟩), .pointer (some ⟨br, 0, none⟩), .int .i64 size, .int .i64 most] :: Vs b last mo cap F M :: Reg.Rg br size most S :: L) w → vK [.int .i64 a, u1, u2] w := by
      intro a u1 u2 w ha1 ha2 haI d
      refine hvK _ _ fun _ => ?_
      clear hvK
      simp only [UN]
      repeat (first | (simp +decide only [SEM]) | (apply ldm d; (focus ((repeat (first | exact .h _ | refine .t _ _ ?_)); done)); (focus rfl)) | (((repeat (refine bld_c rfl rfl (by simp) ?_; simp only [List.set_cons_zero, List.set_cons_succ])); refine bld_n ?_)))
      refine fn20 (fun _ _ => rfl) (Reg.Put_ok (x := ⟨a, n, id, fr, prot⟩) ⟨haI, hI.2.1, hI.2.2.1, hI.2.2.2.1, hI.2.2.2.2⟩ hv (D.sel [2] d) (fun hp w d => ?_) fun hp w d => ?_)
      · have hq : ¬ PutOk size most S ⟨a, n, id, fr, prot⟩ := fun h => hp (Reg.put0.2 h)
        generalize Reg.putSt size most S ⟨a, n, id, fr, prot⟩ = e at hp
        repeat (simp +decide only [SEM])
        exact ⟨fun _ => k0 e w hp (.inr (.inr (.inr (.inr (.inr ⟨a, ha1, ha2, hq⟩))))) (D.sel [1, 2, 0] d), fun h => absurd h hp⟩
      · repeat (simp +decide only [SEM])
        exact k1 x a w hl (by omega) (by omega) (by omega) ha1 ha2 (Reg.put0.1 hp) (D.sel [1, 2, 0] d)
    have d := d.tail.swap
    have hps := fun hn1 : 0 < n => Reg.place_spec ok hn1 S [] 0 rfl (by omega) (by have := ok.sz; omega) (by decide) (by simp) (fun s hs => hs.1)
    have hsz := ok.sz
    repeat (simp +decide only [SEM])
    refine ⟨fun h3 => ?_, fun h3 => fin at_ _ _ w (fun _ => rfl) (fun h => absurd h h3) hI.1 d⟩
    repeat (apply ldm d; (focus ((repeat (first | exact .h _ | refine .t _ _ ?_)); done)); (focus rfl))
    refine fn20 (fun _ _ => rfl) (Reg.Place_ok hI.2.1 (D.sel [2] d) (fun hn w d => ?_) (fun hn1 hn2 a ha w d => ?_) (fun hn1 hn2 ha hz w d => ?_) fun hn1 hn2 ha hz w d => ?_)
    · have e : plc size n S = none := by unfold plc; rw [if_neg hn]
      repeat (simp +decide only [SEM])
      exact k0 _ w (by decide) (.inr (.inr (.inr (.inr (.inl ⟨h3, e⟩))))) (D.sel [1, 2, 0] d)
    · have e : plc size n S = some a := by unfold plc; rw [if_pos ⟨hn1, hn2⟩, ha]
      obtain ⟨⟨f1, f2, -⟩, -, -⟩ := (hps hn1).1 a ha
      repeat (simp +decide only [SEM])
      exact fin a _ _ w (fun h => absurd h3 h) (fun _ => e) ⟨by omega, by omega⟩ (D.sel [1, 2, 0] d)
    · have e : plc size n S = none := by unfold plc; rw [if_pos ⟨hn1, hn2⟩, ha]; simp only; rw [if_neg (by omega)]
      repeat (simp +decide only [SEM])
      exact k0 _ w (by decide) (.inr (.inr (.inr (.inr (.inl ⟨h3, e⟩))))) (D.sel [1, 2, 0] d)
    · have e : plc size n S = some (Reg.placeG n S 0).2 := by unfold plc; rw [if_pos ⟨hn1, hn2⟩, ha]; simp only; rw [if_pos hz]
      obtain ⟨-, f1, f2, -, -⟩ := (hps hn1).2 ha
      repeat (simp +decide only [SEM])
      exact fin _ _ _ w (fun h => absurd h3 h) (fun _ => e) ⟨by omega, by omega⟩ (D.sel [1, 2, 0] d)
end
end Go.Proofs.Ytgkbbihaaichbaa

set_option maxRecDepth 100000
set_option maxHeartbeats 1600000
namespace Go.Proofs.Ytgkbbihaaichbaa
open Go Go.Jac
open Reg (Pc pc pc_len inP sumN insP PutOk Rok)
/-- A protection's bit. -/
def bitv (p need : Int) : Int := IntKind.i64.wrap ((BitVec.ofInt (IntKind.bits .i64) p &&& BitVec.ofInt (IntKind.bits .i64) need).toNat : Int)
def PartsOk (size : Int) (S : List Pc) (at_ n need : Int) : Prop := 0 ≤ at_ ∧ 0 ≤ n ∧ n ≤ 4096 ∧ at_ + n ≤ size ∧ sumN (S.flatMap (inP at_ n)) = n ∧ ∀ p ∈ S.flatMap (inP at_ n), bitv p.p need ≠ 0
section
variable {w0 w : World} {L : List HP} {K : Value → WP} {b bs br : Nat} {last mo cap size most : Int} {F : List Fr} {M : List Vo} {S : List Pc}
theorem Pieces_ok (d : D w0 (Sp bs b br size most :: Reg.Rg br size most S :: L) w) (k : ∀ lv w', D w0 (Rw 72 5 lv S.length (S.flatMap pc) :: Sp bs b br size most :: Reg.Rg br size most S :: L) w' → K lv w') :
    Cl pg 13 #[.pointer (some ⟨bs, 0, none⟩)] K w := by
  refine V.space_Space_Pieces_ok ?_
  unfold V.space_Space_Pieces
  unfold Sp at d k
  repeat (first | (simp +decide only [SEM]) | (apply ldm d; (focus ((repeat (first | exact .h _ | refine .t _ _ ?_)); done)); (focus rfl)))
  refine fn10 (fun _ _ => rfl) (Reg.List_ok d.swap fun lv w d => ?_)
  skip
  exact k lv w (D.sel [0, 2] d)
theorem Uses_ok {id : Int} (d : D w0 (Sp bs b br size most :: Reg.Rg br size most S :: L) w) (k : ∀ w', D w0 (Sp bs b br size most :: Reg.Rg br size most S :: L) w' → K (.int .i64 ((S.filter fun p => decide (p.v = id)).length : Nat)) w') :
    Cl pg 12 #[.pointer (some ⟨bs, 0, none⟩), .int .i64 id] K w := by
  refine V.space_Space_Uses_ok ?_
  unfold V.space_Space_Uses
  have ok := Reg.Rg.facts d.swap
  have hl := ok.len
  have hmo := ok.mo
  unfold Sp at d k
  repeat (first | (simp +decide only [SEM]) | (apply ldm d; (focus ((repeat (first | exact .h _ | refine .t _ _ ?_)); done)); (focus rfl)))
  refine fn10 (fun _ _ => rfl) (Reg.List_ok d.swap fun lv w d => ?_)
  obtain ⟨q, c, rfl, -⟩ := Rw.shape d.1
  repeat (simp +decide only [SEM])
  refine ⟨fun vs w' => ∃ (i : Nat), vs = [.int .i64 (((S.take i).filter fun p => decide (p.v = id)).length : Nat), .int .i64 i] ∧ i ≤ S.length ∧ D w0 (Rw 72 5 (.slice q S.length c) S.length (S.flatMap pc) :: Reg.Rg br size most S :: cel bs 64 [.pointer (some ⟨b, 0, none⟩), .pointer (some ⟨br, 0, none⟩), .int .i64 size, .int .i64 most] :: L) w',
    fun vs _ => match vs with | [_, .int _ i] => S.length - i.toNat | _ => 0, ⟨0, rfl, by omega, d⟩, ?_⟩
  clear d
  rintro _ w ⟨i, rfl, hi, d⟩ _
  simp only [UN]
  repeat (simp +decide only [SEM])
  refine ⟨fun hlt => ?_, fun hge => ?_⟩
  · have hlt' : i < S.length := by omega
    refine rw_elN d (.h _) pc_len hlt' ?_
    have hts := List.take_succ_eq_append_getElem hlt'
    have hw1 : IntKind.i64.wrap ((i : Int) + 1) = i + 1 := w64 (by omega) (by omega)
    have hfl := List.length_filter_le (fun p : Pc => decide (p.v = id)) (S.take i)
    rw [List.length_take] at hfl
    have hfi : ((S.take (i + 1)).filter fun p => decide (p.v = id)).length = ((S.take i).filter fun p => decide (p.v = id)).length + if S[i].v = id then 1 else 0 := by
      rw [hts, List.filter_append, List.length_append]
      by_cases h : S[i].v = id <;> simp [h]
    generalize hx : S[i] = x at *
    have hpx : pc x = [.int .i64 x.a, .int .i64 x.n, .int .i64 x.v, .int .i64 x.f, .int .i64 x.p] := rfl
    rw [hpx]
    generalize ((S.take i).filter fun p => decide (p.v = id)).length = N at *
    repeat (first | (simp +decide only [SEM]) | (apply ldm d; (focus ((repeat (first | exact .h _ | refine .t _ _ ?_)); done)); (focus rfl)) | (refine d_new _ d fun bn w d => ?_) | (apply swm d; (focus ((repeat (first | exact .h _ | apply Rp.t)); done)); (focus rfl); (focus rfl); (focus exact ones rfl); intro w d; simp only [SPL] at d))
    refine ⟨fun h => ?_, fun h => ?_⟩
    · rw [if_pos h] at hfi
      skip
      rw [hw1, w64 (by omega) (by omega)]
      exact ⟨⟨i + 1, by rw [hfi]; simp, by omega, d.tail⟩, by omega⟩
    · rw [if_neg h] at hfi
      skip
      rw [hw1]
      exact ⟨⟨i + 1, by rw [hfi]; simp, by omega, d.tail⟩, by omega⟩
  · rw [List.take_of_length_le (by omega)]
    exact k w d.tail.swap
theorem parts_ok {at_ n need : Int} (hI : I64 at_) (hn : I64 n) (d : D w0 (Sp bs b br size most :: Reg.Rg br size most S :: L) w)
    (k0 : ∀ e w', e ≠ 0 → ¬ PartsOk size S at_ n need → D w0 (Sp bs b br size most :: Reg.Rg br size most S :: L) w' → K (.tuple #[.slice none 0 0, .int .i64 e]) w')
    (k1 : PartsOk size S at_ n need → ∀ lv w', D w0 (Rw 72 5 lv (S.flatMap (inP at_ n)).length ((S.flatMap (inP at_ n)).flatMap pc) :: Sp bs b br size most :: Reg.Rg br size most S :: L) w' → K (.tuple #[lv, .int .i64 0]) w') :
    Cl pg 30 #[.pointer (some ⟨bs, 0, none⟩), .int .i64 at_, .int .i64 n, .int .i64 need] K w := by
  refine V.space_Space_parts_ok ?_
  unfold V.space_Space_parts
  have ok := Reg.Rg.facts d.swap
  have hl := ok.len
  have hmo := ok.mo
  have hil := Reg.ins_len at_ n S
  unfold Sp at d k0 k1
  repeat (simp +decide only [SEM])
  refine ⟨fun h1 => ?_, fun h1 => k0 _ w (by decide) (fun h => by have := h.2.1; omega) d⟩
  skip
  refine ⟨fun h2 => k0 _ w (by decide) (fun h => by have := h.2.2.1; omega) d, fun h2 => ?_⟩
  repeat (apply ldm d; (focus ((repeat (first | exact .h _ | refine .t _ _ ?_)); done)); (focus rfl))
  refine fn30 (fun _ _ => rfl) (Reg.Span_ok hI hn d.swap (fun e w he hh d => ?_) fun g1 g2 g3 g4 lv w d => ?_)
  · repeat (simp +decide only [SEM])
    exact ⟨fun _ => k0 e w he (fun h => by obtain ⟨a1, a2, a3, a4, a5, -⟩ := h; rcases hh with hh | hh | hh | hh <;> first | omega | exact hh a5) d.swap, fun h => absurd h he⟩
  · generalize hS : S.flatMap (inP at_ n) = l at *
    obtain ⟨q, c, rfl, -⟩ := Rw.shape d.1
    repeat (simp +decide only [SEM])
    refine ⟨fun vs w' => ∃ (i : Nat) (u1 u2 : Value), vs = [u1, u2, .int .i64 i] ∧ i ≤ l.length ∧ (∀ p ∈ l.take i, bitv p.p need ≠ 0) ∧ D w0 (Rw 72 5 (.slice q l.length c) l.length (l.flatMap pc) :: Reg.Rg br size most S :: cel bs 64 [.pointer (some ⟨b, 0, none⟩), .pointer (some ⟨br, 0, none⟩), .int .i64 size, .int .i64 most] :: L) w',
      fun vs _ => match vs with | [_, _, .int _ i] => l.length - i.toNat | _ => 0, ⟨0, _, _, rfl, by omega, by simp, d⟩, ?_⟩
    clear d
    rintro _ w ⟨i, u1, u2, rfl, hi, hall, d⟩ _
    simp only [UN]
    repeat (simp +decide only [SEM])
    refine ⟨fun hlt => ?_, fun hge => ?_⟩
    · have hlt' : i < l.length := by omega
      refine rw_elN d (.h _) pc_len hlt' ?_
      have hts := List.take_succ_eq_append_getElem hlt'
      have hmem : l[i] ∈ l := List.getElem_mem hlt'
      have hw1 : IntKind.i64.wrap ((i : Int) + 1) = i + 1 := w64 (by omega) (by omega)
      generalize l[i] = x at *
      have hpx : pc x = [.int .i64 x.a, .int .i64 x.n, .int .i64 x.v, .int .i64 x.f, .int .i64 x.p] := rfl
      rw [hpx]
      repeat (first | (simp +decide only [SEM]) | (apply ldm d; (focus ((repeat (first | exact .h _ | refine .t _ _ ?_)); done)); (focus rfl)) | (refine d_new _ d fun bn w d => ?_) | (apply swm d; (focus ((repeat (first | exact .h _ | apply Rp.t)); done)); (focus rfl); (focus rfl); (focus exact ones rfl); intro w d; simp only [SPL] at d))
      have e : ∀ z : Int, IntKind.i64.wrap ((BitVec.ofInt (IntKind.bits .i64) x.p &&& BitVec.ofInt (IntKind.bits .i64) need).toNat : Int) = z ↔ bitv x.p need = z := fun z => Iff.rfl
      refine ⟨fun h => ?_, fun h => ?_⟩
      · exact k0 _ w (by decide) (fun hh => hh.2.2.2.2.2 x (by rw [hS]; exact hmem) h) (D.sel [3, 2] d |> fun d => D.sel [0, 1] d |> fun d => (D.sel [2, 3] d).tail.tail)
      · skip
        rw [hw1]
        refine ⟨⟨i + 1, u1, u2, by simp, by omega, fun p hp => ?_, d.tail⟩, by omega⟩
        rw [hts] at hp
        rcases List.mem_append.1 hp with hp | hp
        · exact hall p hp
        · rw [List.mem_singleton.1 hp]; exact h
    · rw [List.take_of_length_le (by omega)] at hall
      exact k1 ⟨g1, g2, by omega, g3, by rw [hS]; exact g4, by rw [hS]; exact hall⟩ _ w (D.sel [0, 2, 1] d)
/-- A part can be read. -/
def okp (M : List Vo) (p : Pc) : Prop := ∃ x, live M p.v = some x ∧ 0 ≤ p.f ∧ 0 ≤ p.n ∧ p.n ≤ 4096 ∧ p.f + p.n ≤ x.size
def rdp (F : List Fr) (M : List Vo) (p : Pc) : List Int := match live M p.v with
  | some x => sub (byt F x.pl) p.f.toNat p.n.toNat
  | none => []
theorem rdp_le {B : Nat} (F : List Fr) (M : List Vo) : ∀ l : List Pc, (∀ p ∈ l, p.n ≤ B) → (l.flatMap (rdp F M)).length ≤ l.length * B
  | [], _ => by simp
  | p :: r, h => by
    have h1 := rdp_le F M r fun q hq => h q (List.mem_cons_of_mem _ hq)
    have h2 := h p List.mem_cons_self
    rw [List.flatMap_cons, List.length_append, List.length_cons, Nat.succ_mul]
    have h3 : (rdp F M p).length ≤ B := by
      unfold rdp
      cases live M p.v with
      | none => simp
      | some x => simp only; rw [sub_len]; omega
    omega
theorem SRead_ok {at_ n : Int} (hI : I64 at_) (hn : I64 n) (h : VW cap F M) (hns : ∀ id x, vfind M id = some x → x.sl = false) (d : D w0 (Sp bs b br size most :: Vs b last mo cap F M :: Reg.Rg br size most S :: L) w)
    (k0 : ∀ e w', e ≠ 0 → (¬ PartsOk size S at_ n 1 ∨ ∃ p ∈ S.flatMap (inP at_ n), ¬ okp M p) → D w0 (Sp bs b br size most :: Vs b last mo cap F M :: Reg.Rg br size most S :: L) w' → K (.tuple #[.slice none 0 0, .int .i64 e]) w')
    (k1 : PartsOk size S at_ n 1 → (∀ p ∈ S.flatMap (inP at_ n), okp M p) → ∀ sv w', D w0 (Rw 5 1 sv ((S.flatMap (inP at_ n)).flatMap (rdp F M)).length (((S.flatMap (inP at_ n)).flatMap (rdp F M)).flatMap bI) :: Sp bs b br size most :: Vs b last mo cap F M :: Reg.Rg br size most S :: L) w' → K (.tuple #[sv, .int .i64 0]) w') :
    Cl pg 15 #[.pointer (some ⟨bs, 0, none⟩), .int .i64 at_, .int .i64 n] K w := by
  refine V.space_Space_Read_ok ?_
  unfold V.space_Space_Read
  have ok := Reg.Rg.facts (D.sel [2] d)
  have hl := ok.len
  have hmo := ok.mo
  have hil := Reg.ins_len at_ n S
  refine fn40 (fun _ _ => rfl) (parts_ok hI hn (D.sel [0, 2] d) (fun e w he hh d => ?_) fun hpo lv w d => ?_)
  · repeat (simp +decide only [SEM])
    exact ⟨fun _ => k0 e w he (.inl hh) (D.sel [0, 2] d), fun h => absurd h he⟩
  unfold Sp at d k0 k1
  generalize hS : S.flatMap (inP at_ n) = l at *
  obtain ⟨q, c, rfl, -⟩ := Rw.shape d.1
  have d : D w0 (Rw 72 5 (.slice q l.length c) l.length (l.flatMap pc) :: cel bs 64 [.pointer (some ⟨b, 0, none⟩), .pointer (some ⟨br, 0, none⟩), .int .i64 size, .int .i64 most] :: Reg.Rg br size most S :: Vs b last mo cap F M :: L) w := d
  repeat (simp +decide only [SEM])
  have d0 : D w0 (Rw 5 1 (.slice none 0 0) (List.length (([] : List Pc).flatMap (rdp F M))) ((([] : List Pc).flatMap (rdp F M)).flatMap bI) :: _) w := ⟨Rw.nil _ _ d.1, d.2⟩
  refine ⟨fun vs w' => ∃ (i : Nat) (u1 u2 ov : Value), vs = [u1, u2, ov, .int .i64 i] ∧ i ≤ l.length ∧ (∀ p ∈ l.take i, okp M p) ∧ D w0 (Rw 5 1 ov ((l.take i).flatMap (rdp F M)).length (((l.take i).flatMap (rdp F M)).flatMap bI) :: Rw 72 5 (.slice q l.length c) l.length (l.flatMap pc) :: cel bs 64 [.pointer (some ⟨b, 0, none⟩), .pointer (some ⟨br, 0, none⟩), .int .i64 size, .int .i64 most] :: Reg.Rg br size most S :: Vs b last mo cap F M :: L) w',
    fun vs _ => match vs with | [_, _, _, .int _ i] => l.length - i.toNat | _ => 0, ⟨0, _, _, _, rfl, by omega, by simp, d0⟩, ?_⟩
  clear d d0
  rintro _ w ⟨i, u1, u2, ov, rfl, hi, hall, d⟩ _
  simp only [UN]
  repeat (simp +decide only [SEM])
  refine ⟨fun hlt => ?_, fun hge => ?_⟩
  · have hlt' : i < l.length := by omega
    refine rw_elN d (.t _ _ (.h _)) pc_len hlt' ?_
    have hts := List.take_succ_eq_append_getElem hlt'
    have hmem : l[i] ∈ l := List.getElem_mem hlt'
    have hw1 : IntKind.i64.wrap ((i : Int) + 1) = i + 1 := w64 (by omega) (by omega)
    have hBl := rdp_le (B := 4096) F M (l.take i) fun p hp => by
      obtain ⟨x, _, _, _, h4, _⟩ := hall p hp; exact h4
    rw [List.length_take] at hBl
    have hBl2 : min i l.length * 4096 ≤ 65536 * 4096 := Nat.mul_le_mul_right _ (by omega)
    have hfi : (l.take (i + 1)).flatMap (rdp F M) = (l.take i).flatMap (rdp F M) ++ rdp F M l[i] := by rw [hts, List.flatMap_append, List.flatMap_singleton]
    generalize hB : (l.take i).flatMap (rdp F M) = B at *
    generalize l[i] = x at *
    have hpx : pc x = [.int .i64 x.a, .int .i64 x.n, .int .i64 x.v, .int .i64 x.f, .int .i64 x.p] := rfl
    rw [hpx]
    refine d_new _ d fun bx w d => ?_
    repeat (first | refine drw d fun w d => ?_ | refine qt d ?_ | refine qe_nil ?_ | (apply qlm; (focus ((repeat (first | exact .h _ | refine .t _ _ ?_)); done)); (focus rfl)) | (apply swm d; (focus ((repeat (first | exact .h _ | apply Rp.t)); done)); (focus rfl); (focus rfl); (focus exact ones rfl); intro w d; simp only [SPL] at d))
    refine fn40 (fun _ _ => rfl) (VRead_ok h (D.sel [5] d) (fun e w he hno d => ?_) fun x' N y yid t sv w hx hb hy h1 h2 h3 d => ?_)
    · have d : D w0 (Vs b last mo cap F M :: cel bx 72 [.int .i64 x.a, .int .i64 x.n, .int .i64 x.v, .int .i64 x.f, .int .i64 x.p] :: Rw 5 1 ov B.length (B.flatMap bI) :: Rw 72 5 (.slice q l.length c) l.length (l.flatMap pc) :: cel bs 64 [.pointer (some ⟨b, 0, none⟩), .pointer (some ⟨br, 0, none⟩), .int .i64 size, .int .i64 most] :: Reg.Rg br size most S :: L) w := d
      have hnok : ¬ okp M x := fun ⟨x', g1, g2, g3, g4, g5⟩ => by
        rcases hno with hh | hh | hh | ⟨x2, hx2, hh⟩
        · rw [hh] at g1; cases g1
        · omega
        · omega
        · rw [g1] at hx2
          obtain rfl := Option.some.inj hx2
          exact hh ⟨g2, g3, by omega, by omega⟩
      refine qt d ?_
      refine qe_ext (v := .slice none 0 0) rfl ?_
      refine qe_ext (v := .int .i64 e) rfl ?_
      repeat (simp +decide only [SEM])
      exact ⟨fun _ => k0 e w he (.inr ⟨x, hmem, hnok⟩) (D.sel [4, 0, 5] d |> fun d => (D.sel [3, 4, 5] d).tail.tail.tail), fun hh => absurd hh he⟩
    · obtain ⟨-, rfl, rfl⟩ := hb.flat (hns _ _ (live_some hx).1)
      have hok : okp M x := ⟨y, hx, h2.1, h1.1, h1.2, by omega⟩
      have hr : sub (byt F y.pl) (0 + x.f).toNat x.n.toNat = rdp F M x := by unfold rdp; rw [hx, Int.zero_add]
      have hrl : x.n.toNat = (rdp F M x).length := by rw [← hr, sub_len]
      rw [hr, hrl] at d
      have d : D w0 (Rw 5 1 sv (rdp F M x).length ((rdp F M x).flatMap bI) :: Vs b last mo cap F M :: cel bx 72 [.int .i64 x.a, .int .i64 x.n, .int .i64 x.v, .int .i64 x.f, .int .i64 x.p] :: Rw 5 1 ov B.length (B.flatMap bI) :: Rw 72 5 (.slice q l.length c) l.length (l.flatMap pc) :: cel bs 64 [.pointer (some ⟨b, 0, none⟩), .pointer (some ⟨br, 0, none⟩), .int .i64 size, .int .i64 most] :: Reg.Rg br size most S :: L) w := d
      have hr4 : (rdp F M x).length ≤ 4096 := by rw [← hrl]; omega
      refine qt d ?_
      refine qe_ext (v := sv) rfl ?_
      refine qe_ext (v := .int .i64 0) rfl ?_
      repeat (simp +decide only [SEM])
      refine Reg.d_appm (bytes := 1) (zero := #[.int .u8 0]) (D.sel [3] d) (seesB_rw _ _ d).src rfl (by omega) (by omega) (bI_one _) fun ov' w d => ?_
      repeat (simp +decide only [SEM])
      rw [hw1]
      refine ⟨⟨i + 1, u1, u2, ov', by simp, by omega, fun p hp => ?_, ?_⟩, by omega⟩
      · rw [hts] at hp
        rcases List.mem_append.1 hp with hp | hp
        · exact hall p hp
        · rw [List.mem_singleton.1 hp]; exact hok
      · rw [hfi, List.flatMap_append, List.length_append]
        exact (D.sel [0, 4, 5, 6, 2] d |> fun d => (D.sel [5, 6] d).tail.tail)
  · rw [List.take_of_length_le (by omega)] at d hall
    exact k1 (by rw [← hS] at *; exact hpo) hall ov w (D.sel [0, 2, 4, 3] d |> fun d => (D.sel [4] d).tail)
end
end Go.Proofs.Ytgkbbihaaichbaa

set_option maxRecDepth 100000
set_option maxHeartbeats 1600000
namespace Go.Proofs.Ytgkbbihaaichbaa
open Go Go.Jac
open Reg (Pc pc pc_len inP sumN insP PutOk Rok)
section
variable {w0 w : World} {L : List HP} {K : Value → WP} {sv : Value} {l : List Int} {A : HP}
theorem SeesB.slc_both (h : SeesB w sv l) {k k2 : IntKind} {i j : Nat} (hij : i ≤ j) (hj : j ≤ l.length) (kk : K (Proofs.Ytgkbbihaaichbaa.takeV (j - i) (Proofs.Ytgkbbihaaichbaa.dropV i sv)) w) : SlC 1 sv (some (.int k i)) (some (.int k2 j)) K w := by
  obtain ⟨p, c, rfl, hc, hx⟩ := h
  refine slc_ok i j ⟨_, rfl, by omega⟩ ⟨_, rfl, hij⟩ ?_ kk
  show Value.slice (if c - i = 0 then _ else _) (j - i - 0) (c - i - 0) = _
  simp only [Nat.sub_zero]
  congr 1
  split
  · rfl
  · cases (if c = i then p else p.map (·.add (i * 1))) with
    | none => rfl
    | some a => rfl
theorem sub_wr1 {B : Nat → Int} {o : Nat} {l : List Int} : sub (wr B o l) o l.length = l := by
  apply List.ext_getElem
  · simp [sub]
  · intro i h1 h2
    simp only [sub, List.getElem_map, List.getElem_range, wr]
    rw [if_pos (by omega), show o + i - o = i by omega, List.getElem?_eq_getElem h2]
    rfl
end
/-- The one object. -/
def ob (sz : Int) (fb c : Nat) (pl : PL) : Vo := ⟨1, sz, 0, true, fb, pl, .slice none 0 0, [], false, 0, 0, false, c⟩
structure On (cap sz : Int) (fb c : Nat) (F : List Fr) (pl : PL) (B : Nat → Int) (N : Nat) : Prop where
  vw : VW cap F [ob sz fb c pl]
  bt : ∀ i, byt F pl i = B i
  u : usedF F ≤ N
def wrL (B : Nat → Int) : List Pc → List Int → Nat → Int
  | [], _ => B
  | p :: r, data => wrL (wr B p.f.toNat (data.take p.n.toNat)) r (data.drop p.n.toNat)
theorem ob_live (sz : Int) (fb c : Nat) (pl : PL) : live [ob sz fb c pl] 1 = some (ob sz fb c pl) := rfl
theorem ob_find (sz : Int) (fb c : Nat) (pl : PL) : vfind [ob sz fb c pl] 1 = some (ob sz fb c pl) := rfl
theorem ob_ns (sz : Int) (fb c : Nat) (pl : PL) : ∀ id x, vfind [ob sz fb c pl] id = some x → x.sl = false := fun id x hx => by
  rw [List.mem_singleton.1 (vfind_id hx).2]; rfl
section
variable {cap sz : Int} {fb c : Nat} {F F' : List Fr} {pl pl' : PL} {B : Nat → Int} {N : Nat}
theorem On.write {g a : Nat} {l : List Int} (h : On cap sz fb c F pl B N) (hw : WR cap [ob sz fb c pl] 1 (ob sz fb c pl) F a l F' pl') (hp : (pgL a l.length).length ≤ g) : On cap sz fb c F' pl' (wr B a l) (N + g) := by
  have h1 := h.vw.pl (pl := pl') (ob_find sz fb c pl) rfl hw.ok hw.kn hw.ui
  refine ⟨h1, fun i => ?_, ?_⟩
  · rw [hw.byt i]
    unfold wr
    split
    · rfl
    · exact h.bt i
  · have g1 := hw.used
    have g2 := needF_le (F, (ob sz fb c pl).pl) (pgL a l.length)
    have g3 := h.u
    omega
end
section
variable {w0 w : World} {L : List HP} {K : Value → WP} {b bs br : Nat} {last mo cap size most sz : Int} {fb c : Nat} {F : List Fr} {pl : PL} {B : Nat → Int} {N : Nat} {S : List Pc} {A : HP} {sv : Value} {data : List Int}
/-- Written to the object. -/
theorem onw_ok {g : Nat} {id a : Int} (hid : id = 1) (ha : 0 ≤ a) (hsz : a + data.length ≤ sz) (hl : data.length ≤ 300) (hp : ∀ a : Int, (pgL a data.length).length ≤ g) (h : On cap sz fb c F pl B N) (hN : N + g ≤ cap) (hA : SeesBA w0 A sv data) (d : D w0 (A :: Vs b last mo cap F [ob sz fb c pl] :: L) w)
    (k : ∀ F' pl' w', On cap sz fb c F' pl' (wr B a.toNat data) (N + g) → D w0 (A :: Vs b last mo cap F' [ob sz fb c pl'] :: L) w' → K (.int .i64 0) w') :
    Cl pg 31 #[.pointer (some ⟨b, 0, none⟩), .int .i64 id, .int .i64 a, sv] K w := by
  subst hid
  refine VWrite_ok h.vw hA d (fun e w he hno d => ?_) fun x' N2 y' yid t2 F' pl' w hx' hb' hy' _ _ _ hwr _ d => ?_
  · exfalso
    rcases hno with hh | hh | ⟨x', hx', hh⟩ | ⟨x', N2, y', t2, hx', hb', hh⟩
    · rw [ob_live] at hh; cases hh
    · omega
    · rw [ob_live] at hx'
      obtain rfl := Option.some.inj hx'
      exact hh ⟨by omega, by show a ≤ sz; omega, by show (data.length : Int) ≤ sz - a; omega⟩
    · rw [ob_live] at hx'
      obtain rfl := Option.some.inj hx'
      obtain ⟨-, rfl, rfl⟩ := hb'.flat rfl
      have g1 := needF_le (F, (ob sz fb c pl).pl) (pgL (0 + a) (data.length : Int))
      have g2 := hp (0 + a)
      have g3 := h.u
      omega
  · rw [ob_live] at hx'
    obtain rfl := Option.some.inj hx'
    obtain ⟨-, rfl, rfl⟩ := hb'.flat rfl
    obtain rfl : yid = 1 := (vfind_id hy').1.symm
    rw [Int.zero_add] at hwr
    exact k F' pl' w (h.write hwr (hp _)) d
theorem pg6 (a : Int) (n : Nat) (h : n ≤ 300) : (pgL a n).length ≤ 6 := by rw [pgL_len]; unfold pgN; split <;> omega
theorem SWrite_ok {g mx : Nat} {at_ : Int} (hI : I64 at_) (hg : ∀ (a : Int) (n : Nat), n ≤ mx → (pgL a n).length ≤ g) (hA : SeesBA w0 A sv data) (hl : data.length ≤ 300) (h : On cap sz fb c F pl B N) (hS : ∀ p ∈ S.flatMap (inP at_ data.length), p.v = 1 ∧ 0 ≤ p.f ∧ 0 ≤ p.n ∧ p.n ≤ mx ∧ p.f + p.n ≤ sz) (hN : N + g * (S.flatMap (inP at_ data.length)).length ≤ cap) (hsz : sz ≤ 4294967296)
    (d : D w0 (A :: Sp bs b br size most :: Vs b last mo cap F [ob sz fb c pl] :: Reg.Rg br size most S :: L) w)
    (k0 : ∀ e w', e ≠ 0 → ¬ PartsOk size S at_ data.length 2 → D w0 (A :: Sp bs b br size most :: Vs b last mo cap F [ob sz fb c pl] :: Reg.Rg br size most S :: L) w' → K (.tuple #[.int .i64 0, .int .i64 e]) w')
    (k1 : PartsOk size S at_ data.length 2 → ∀ F' pl' w', On cap sz fb c F' pl' (wrL B (S.flatMap (inP at_ data.length)) data) (N + g * (S.flatMap (inP at_ data.length)).length) → D w0 (A :: Sp bs b br size most :: Vs b last mo cap F' [ob sz fb c pl'] :: Reg.Rg br size most S :: L) w' → K (.tuple #[.int .i64 data.length, .int .i64 0]) w') :
    Cl pg 14 #[.pointer (some ⟨bs, 0, none⟩), .int .i64 at_, sv] K w := by
  refine V.space_Space_Write_ok ?_
  unfold V.space_Space_Write
  have ok := Reg.Rg.facts (D.sel [3] d)
  have hrl := ok.len
  have hmo := ok.mo
  have hil := Reg.ins_len at_ data.length S
  refine (hA _ _ d).len ?_
  refine fn40 (fun _ _ => rfl) (parts_ok hI ⟨by omega, by omega⟩ (D.sel [1, 3] d) (fun e w he hh d => ?_) fun hpo lv w d => ?_)
  · repeat (first | refine drw d fun w d => ?_ | (simp +decide only [SEM]) | (apply ldm d; (focus ((repeat (first | exact .h _ | refine .t _ _ ?_)); done)); (focus rfl)) | (apply lam d; (focus ((repeat (first | exact .h _ | refine .t _ _ ?_)); done)); (focus rfl)) | (((repeat (refine bld_c rfl rfl (by simp) ?_; simp only [List.set_cons_zero, List.set_cons_succ])); refine bld_n ?_)) | (refine d_new _ d fun bn w d => ?_) | refine bsl1 (by first | rfl | (simp only [cells_agg, cells_int, cells_bool, cells_ptr, cells_sl, cells_map, cells_fn, List.drop_succ_cons, List.drop_zero, List.take_succ_cons, List.take_zero, Nat.zero_add, Nat.reduceAdd, Int.toNat_natCast, Int.toNat_zero]; rfl)) rfl d (by decide) (by decide) fun bn w d => ?_ | refine bsl2 rfl rfl d fun bn w d => ?_ | refine bsl0 d fun bn w d => ?_ | refine qt d ?_ | refine qe_nil ?_ | refine qe_fa ?_ | refine qe_len ?_ | (apply qlm; (focus ((repeat (first | exact .h _ | refine .t _ _ ?_)); done)); (focus rfl)) | (apply qam; (focus ((repeat (first | exact .h _ | refine .t _ _ ?_)); done)); (focus rfl)) | refine qe _ (fun w d => by ((repeat (refine bld_c rfl rfl (by simp) ?_; simp only [List.set_cons_zero, List.set_cons_succ])); refine bld_n ?_); exact ⟨rfl, rfl⟩) ?_ | refine qe_ext rfl ?_ | refine qe_op (fun _ _ => BinI_add) ?_ | refine qe_op (fun _ _ => BinI_sub) ?_ | refine qe_op (fun _ _ => BinI_mul) ?_ | refine qe_op (fun _ _ => BinI_eql) ?_ | refine qe_op (fun _ _ => BinI_neq) ?_ | refine qe_op (fun _ _ => BinI_lss) ?_ | refine qe_op (fun _ _ => BinI_leq) ?_ | refine qe_op (fun _ _ => BinI_gtr) ?_ | refine qe_op (fun _ _ => BinI_geq) ?_ | refine qe_op (fun _ _ => Un_not _) ?_ | refine qia (by first | omega | (simp; omega)) ?_ | refine qia0 (by first | omega | (simp; omega)) ?_ | (focus (apply qln; (focus ((repeat (first | exact .h _ | refine .t _ _ ?_)); done)); (focus exact fun _ => rfl); rotate_left; (focus (first | omega | (simp; done) | (simp; omega))))) | (focus (apply ql1; (focus ((repeat (first | exact .h _ | refine .t _ _ ?_)); done)); (focus exact fun _ => rfl); (focus rfl); rotate_left; (focus (first | omega | (simp; done) | (simp; omega))))) | (focus (apply ql0; (focus ((repeat (first | exact .h _ | refine .t _ _ ?_)); done)); (focus exact fun _ => rfl); (focus rfl); rotate_left; (focus (first | omega | (simp; done) | (simp; omega))))) | (apply swm d; (focus ((repeat (first | exact .h _ | apply Rp.t)); done)); (focus rfl); (focus rfl); (focus exact ones rfl); intro w d; simp only [SPL] at d) | (apply stm d; (focus ((repeat (first | exact .h _ | apply Rp.t)); done)); (focus rfl); (focus simp); (focus exact ones rfl); intro w d; simp only [SPL] at d) | (apply lpm d; (focus ((repeat (first | exact .h _ | refine .t _ _ ?_)); done)); (focus (simp only [SEM]; rfl)); (focus rfl)) | (focus (apply rw_fld d; (focus ((repeat (first | exact .h _ | refine .t _ _ ?_)); done)); (focus exact fun _ => rfl); (focus rfl); rotate_left; (focus (first | omega | (simp; done) | (simp; omega))))) | (focus (apply rw_el1 d; (focus ((repeat (first | exact .h _ | refine .t _ _ ?_)); done)); (focus exact fun _ => rfl); (focus rfl); rotate_left; (focus (first | omega | (simp; done) | (simp; omega))))) | (focus (apply rw_elN d; (focus ((repeat (first | exact .h _ | refine .t _ _ ?_)); done)); (focus exact fun _ => rfl); rotate_left; (focus (first | omega | (simp; done) | (simp; omega))))) | (focus (apply rw_fld0 d; (focus ((repeat (first | exact .h _ | refine .t _ _ ?_)); done)); (focus exact fun _ => rfl); (focus rfl); rotate_left; (focus (first | omega | (simp; done) | (simp; omega))))) | (focus (apply rw_el10 d; (focus ((repeat (first | exact .h _ | refine .t _ _ ?_)); done)); (focus exact fun _ => rfl); (focus rfl); rotate_left; (focus (first | omega | (simp; done) | (simp; omega))))) | (focus (apply rw_elN0 d; (focus ((repeat (first | exact .h _ | refine .t _ _ ?_)); done)); (focus exact fun _ => rfl); rotate_left; (focus (first | omega | (simp; done) | (simp; omega))))) | refine ch d ?_ | refine ch (D.tail d) ?_ | refine ch (D.tail (D.tail d)) ?_ | refine ch (D.tail (D.tail (D.tail d))) ?_ | refine qe _ (fun w d => max2_ok ⟨rfl, rfl⟩) ?_ | refine qe _ (fun w d => min2_ok ⟨rfl, rfl⟩) ?_ | refine max2_ok ?_ | refine min2_ok ?_ | refine bsl3 rfl rfl rfl d fun bn w d => ?_ | refine qe_op (fun _ _ => BinI_quo rfl) ?_ | refine qe_op (fun _ _ => BinI_rem rfl) ?_ | refine qe_op (fun _ _ => BinI_or) ?_ | refine qe_op (fun _ _ => BinI_and) ?_ | refine qe_op (fun _ _ => BinI_andNot) ?_ | refine qe_op (fun _ _ => BinI_shl) ?_ | refine qe_op (fun _ _ => BinI_shr) ?_)
    exact ⟨fun _ => k0 e w he hh (D.sel [2, 0, 3] d), fun h => absurd h he⟩
  unfold Sp at d k0 k1
  have hsum := hpo.2.2.2.2.1
  generalize hSl : S.flatMap (inP at_ data.length) = l at *
  obtain ⟨q, cc, rfl, -⟩ := Rw.shape d.1
  have d : D w0 (Rw 72 5 (.slice q l.length cc) l.length (l.flatMap pc) :: cel bs 64 [.pointer (some ⟨b, 0, none⟩), .pointer (some ⟨br, 0, none⟩), .int .i64 size, .int .i64 most] :: Reg.Rg br size most S :: A :: Vs b last mo cap F [ob sz fb c pl] :: L) w := d
  obtain ⟨sp, sc, hsv, -⟩ := hA _ _ (D.sel [3] d)
  repeat (first | refine drw d fun w d => ?_ | (simp +decide only [SEM]) | (apply ldm d; (focus ((repeat (first | exact .h _ | refine .t _ _ ?_)); done)); (focus rfl)) | (apply lam d; (focus ((repeat (first | exact .h _ | refine .t _ _ ?_)); done)); (focus rfl)) | (((repeat (refine bld_c rfl rfl (by simp) ?_; simp only [List.set_cons_zero, List.set_cons_succ])); refine bld_n ?_)) | (refine d_new _ d fun bn w d => ?_) | refine bsl1 (by first | rfl | (simp only [cells_agg, cells_int, cells_bool, cells_ptr, cells_sl, cells_map, cells_fn, List.drop_succ_cons, List.drop_zero, List.take_succ_cons, List.take_zero, Nat.zero_add, Nat.reduceAdd, Int.toNat_natCast, Int.toNat_zero]; rfl)) rfl d (by decide) (by decide) fun bn w d => ?_ | refine bsl2 rfl rfl d fun bn w d => ?_ | refine bsl0 d fun bn w d => ?_ | refine qt d ?_ | refine qe_nil ?_ | refine qe_fa ?_ | refine qe_len ?_ | (apply qlm; (focus ((repeat (first | exact .h _ | refine .t _ _ ?_)); done)); (focus rfl)) | (apply qam; (focus ((repeat (first | exact .h _ | refine .t _ _ ?_)); done)); (focus rfl)) | refine qe _ (fun w d => by ((repeat (refine bld_c rfl rfl (by simp) ?_; simp only [List.set_cons_zero, List.set_cons_succ])); refine bld_n ?_); exact ⟨rfl, rfl⟩) ?_ | refine qe_ext rfl ?_ | refine qe_op (fun _ _ => BinI_add) ?_ | refine qe_op (fun _ _ => BinI_sub) ?_ | refine qe_op (fun _ _ => BinI_mul) ?_ | refine qe_op (fun _ _ => BinI_eql) ?_ | refine qe_op (fun _ _ => BinI_neq) ?_ | refine qe_op (fun _ _ => BinI_lss) ?_ | refine qe_op (fun _ _ => BinI_leq) ?_ | refine qe_op (fun _ _ => BinI_gtr) ?_ | refine qe_op (fun _ _ => BinI_geq) ?_ | refine qe_op (fun _ _ => Un_not _) ?_ | refine qia (by first | omega | (simp; omega)) ?_ | refine qia0 (by first | omega | (simp; omega)) ?_ | (focus (apply qln; (focus ((repeat (first | exact .h _ | refine .t _ _ ?_)); done)); (focus exact fun _ => rfl); rotate_left; (focus (first | omega | (simp; done) | (simp; omega))))) | (focus (apply ql1; (focus ((repeat (first | exact .h _ | refine .t _ _ ?_)); done)); (focus exact fun _ => rfl); (focus rfl); rotate_left; (focus (first | omega | (simp; done) | (simp; omega))))) | (focus (apply ql0; (focus ((repeat (first | exact .h _ | refine .t _ _ ?_)); done)); (focus exact fun _ => rfl); (focus rfl); rotate_left; (focus (first | omega | (simp; done) | (simp; omega))))) | (apply swm d; (focus ((repeat (first | exact .h _ | apply Rp.t)); done)); (focus rfl); (focus rfl); (focus exact ones rfl); intro w d; simp only [SPL] at d) | (apply stm d; (focus ((repeat (first | exact .h _ | apply Rp.t)); done)); (focus rfl); (focus simp); (focus exact ones rfl); intro w d; simp only [SPL] at d) | (apply lpm d; (focus ((repeat (first | exact .h _ | refine .t _ _ ?_)); done)); (focus (simp only [SEM]; rfl)); (focus rfl)) | (focus (apply rw_fld d; (focus ((repeat (first | exact .h _ | refine .t _ _ ?_)); done)); (focus exact fun _ => rfl); (focus rfl); rotate_left; (focus (first | omega | (simp; done) | (simp; omega))))) | (focus (apply rw_el1 d; (focus ((repeat (first | exact .h _ | refine .t _ _ ?_)); done)); (focus exact fun _ => rfl); (focus rfl); rotate_left; (focus (first | omega | (simp; done) | (simp; omega))))) | (focus (apply rw_elN d; (focus ((repeat (first | exact .h _ | refine .t _ _ ?_)); done)); (focus exact fun _ => rfl); rotate_left; (focus (first | omega | (simp; done) | (simp; omega))))) | (focus (apply rw_fld0 d; (focus ((repeat (first | exact .h _ | refine .t _ _ ?_)); done)); (focus exact fun _ => rfl); (focus rfl); rotate_left; (focus (first | omega | (simp; done) | (simp; omega))))) | (focus (apply rw_el10 d; (focus ((repeat (first | exact .h _ | refine .t _ _ ?_)); done)); (focus exact fun _ => rfl); (focus rfl); rotate_left; (focus (first | omega | (simp; done) | (simp; omega))))) | (focus (apply rw_elN0 d; (focus ((repeat (first | exact .h _ | refine .t _ _ ?_)); done)); (focus exact fun _ => rfl); rotate_left; (focus (first | omega | (simp; done) | (simp; omega))))) | refine ch d ?_ | refine ch (D.tail d) ?_ | refine ch (D.tail (D.tail d)) ?_ | refine ch (D.tail (D.tail (D.tail d))) ?_ | refine qe _ (fun w d => max2_ok ⟨rfl, rfl⟩) ?_ | refine qe _ (fun w d => min2_ok ⟨rfl, rfl⟩) ?_ | refine max2_ok ?_ | refine min2_ok ?_ | refine bsl3 rfl rfl rfl d fun bn w d => ?_ | refine qe_op (fun _ _ => BinI_quo rfl) ?_ | refine qe_op (fun _ _ => BinI_rem rfl) ?_ | refine qe_op (fun _ _ => BinI_or) ?_ | refine qe_op (fun _ _ => BinI_and) ?_ | refine qe_op (fun _ _ => BinI_andNot) ?_ | refine qe_op (fun _ _ => BinI_shl) ?_ | refine qe_op (fun _ _ => BinI_shr) ?_)
  refine ⟨fun vs w' => ∃ (i done : Nat) (u1 u2 : Value) (F1 : List Fr) (pl1 : PL) (B1 : Nat → Int), vs = [u1, u2, .int .i64 (done : Int), .int .i64 i] ∧ i ≤ l.length ∧ done ≤ data.length ∧ (done : Int) + sumN (l.drop i) = data.length ∧ On cap sz fb c F1 pl1 B1 (N + g * i) ∧ wrL B1 (l.drop i) (data.drop done) = wrL B l data ∧
      D w0 (Rw 72 5 (.slice q l.length cc) l.length (l.flatMap pc) :: cel bs 64 [.pointer (some ⟨b, 0, none⟩), .pointer (some ⟨br, 0, none⟩), .int .i64 size, .int .i64 most] :: Reg.Rg br size most S :: A :: Vs b last mo cap F1 [ob sz fb c pl1] :: L) w',
    fun vs _ => match vs with | [_, _, _, .int _ i] => l.length - i.toNat | _ => 0, ⟨0, 0, _, _, F, pl, B, rfl, by omega, by omega, by simpa using hsum, by simpa using h, by simp, d⟩, ?_⟩
  clear d
  rintro _ w ⟨i, done, u1, u2, F1, pl1, B1, rfl, hi, hdn, hdone, hon, hwr, d⟩ _
  simp only [UN]
  repeat (first | refine drw d fun w d => ?_ | (simp +decide only [SEM]) | (apply ldm d; (focus ((repeat (first | exact .h _ | refine .t _ _ ?_)); done)); (focus rfl)) | (apply lam d; (focus ((repeat (first | exact .h _ | refine .t _ _ ?_)); done)); (focus rfl)) | (((repeat (refine bld_c rfl rfl (by simp) ?_; simp only [List.set_cons_zero, List.set_cons_succ])); refine bld_n ?_)) | (refine d_new _ d fun bn w d => ?_) | refine bsl1 (by first | rfl | (simp only [cells_agg, cells_int, cells_bool, cells_ptr, cells_sl, cells_map, cells_fn, List.drop_succ_cons, List.drop_zero, List.take_succ_cons, List.take_zero, Nat.zero_add, Nat.reduceAdd, Int.toNat_natCast, Int.toNat_zero]; rfl)) rfl d (by decide) (by decide) fun bn w d => ?_ | refine bsl2 rfl rfl d fun bn w d => ?_ | refine bsl0 d fun bn w d => ?_ | refine qt d ?_ | refine qe_nil ?_ | refine qe_fa ?_ | refine qe_len ?_ | (apply qlm; (focus ((repeat (first | exact .h _ | refine .t _ _ ?_)); done)); (focus rfl)) | (apply qam; (focus ((repeat (first | exact .h _ | refine .t _ _ ?_)); done)); (focus rfl)) | refine qe _ (fun w d => by ((repeat (refine bld_c rfl rfl (by simp) ?_; simp only [List.set_cons_zero, List.set_cons_succ])); refine bld_n ?_); exact ⟨rfl, rfl⟩) ?_ | refine qe_ext rfl ?_ | refine qe_op (fun _ _ => BinI_add) ?_ | refine qe_op (fun _ _ => BinI_sub) ?_ | refine qe_op (fun _ _ => BinI_mul) ?_ | refine qe_op (fun _ _ => BinI_eql) ?_ | refine qe_op (fun _ _ => BinI_neq) ?_ | refine qe_op (fun _ _ => BinI_lss) ?_ | refine qe_op (fun _ _ => BinI_leq) ?_ | refine qe_op (fun _ _ => BinI_gtr) ?_ | refine qe_op (fun _ _ => BinI_geq) ?_ | refine qe_op (fun _ _ => Un_not _) ?_ | refine qia (by first | omega | (simp; omega)) ?_ | refine qia0 (by first | omega | (simp; omega)) ?_ | (focus (apply qln; (focus ((repeat (first | exact .h _ | refine .t _ _ ?_)); done)); (focus exact fun _ => rfl); rotate_left; (focus (first | omega | (simp; done) | (simp; omega))))) | (focus (apply ql1; (focus ((repeat (first | exact .h _ | refine .t _ _ ?_)); done)); (focus exact fun _ => rfl); (focus rfl); rotate_left; (focus (first | omega | (simp; done) | (simp; omega))))) | (focus (apply ql0; (focus ((repeat (first | exact .h _ | refine .t _ _ ?_)); done)); (focus exact fun _ => rfl); (focus rfl); rotate_left; (focus (first | omega | (simp; done) | (simp; omega))))) | (apply swm d; (focus ((repeat (first | exact .h _ | apply Rp.t)); done)); (focus rfl); (focus rfl); (focus exact ones rfl); intro w d; simp only [SPL] at d) | (apply stm d; (focus ((repeat (first | exact .h _ | apply Rp.t)); done)); (focus rfl); (focus simp); (focus exact ones rfl); intro w d; simp only [SPL] at d) | (apply lpm d; (focus ((repeat (first | exact .h _ | refine .t _ _ ?_)); done)); (focus (simp only [SEM]; rfl)); (focus rfl)) | (focus (apply rw_fld d; (focus ((repeat (first | exact .h _ | refine .t _ _ ?_)); done)); (focus exact fun _ => rfl); (focus rfl); rotate_left; (focus (first | omega | (simp; done) | (simp; omega))))) | (focus (apply rw_el1 d; (focus ((repeat (first | exact .h _ | refine .t _ _ ?_)); done)); (focus exact fun _ => rfl); (focus rfl); rotate_left; (focus (first | omega | (simp; done) | (simp; omega))))) | (focus (apply rw_elN d; (focus ((repeat (first | exact .h _ | refine .t _ _ ?_)); done)); (focus exact fun _ => rfl); rotate_left; (focus (first | omega | (simp; done) | (simp; omega))))) | (focus (apply rw_fld0 d; (focus ((repeat (first | exact .h _ | refine .t _ _ ?_)); done)); (focus exact fun _ => rfl); (focus rfl); rotate_left; (focus (first | omega | (simp; done) | (simp; omega))))) | (focus (apply rw_el10 d; (focus ((repeat (first | exact .h _ | refine .t _ _ ?_)); done)); (focus exact fun _ => rfl); (focus rfl); rotate_left; (focus (first | omega | (simp; done) | (simp; omega))))) | (focus (apply rw_elN0 d; (focus ((repeat (first | exact .h _ | refine .t _ _ ?_)); done)); (focus exact fun _ => rfl); rotate_left; (focus (first | omega | (simp; done) | (simp; omega))))) | refine ch d ?_ | refine ch (D.tail d) ?_ | refine ch (D.tail (D.tail d)) ?_ | refine ch (D.tail (D.tail (D.tail d))) ?_ | refine qe _ (fun w d => max2_ok ⟨rfl, rfl⟩) ?_ | refine qe _ (fun w d => min2_ok ⟨rfl, rfl⟩) ?_ | refine max2_ok ?_ | refine min2_ok ?_ | refine bsl3 rfl rfl rfl d fun bn w d => ?_ | refine qe_op (fun _ _ => BinI_quo rfl) ?_ | refine qe_op (fun _ _ => BinI_rem rfl) ?_ | refine qe_op (fun _ _ => BinI_or) ?_ | refine qe_op (fun _ _ => BinI_and) ?_ | refine qe_op (fun _ _ => BinI_andNot) ?_ | refine qe_op (fun _ _ => BinI_shl) ?_ | refine qe_op (fun _ _ => BinI_shr) ?_)
  refine ⟨fun hlt => ?_, fun hge => ?_⟩
  · have hlt' : i < l.length := by omega
    refine rw_elN d (.h _) pc_len hlt' ?_
    have hmem : l[i] ∈ l := List.getElem_mem hlt'
    have hdr : l.drop i = l[i] :: l.drop (i + 1) := List.drop_eq_getElem_cons hlt'
    have hall := hS _ hmem
    have hrest : 0 ≤ sumN (l.drop (i + 1)) := by
      have : ∀ r : List Pc, (∀ p ∈ r, 0 ≤ p.n) → 0 ≤ sumN r := fun r => by
        induction r with
        | nil => intro _; simp [sumN]
        | cons p r ih =>
          intro hh
          rw [Reg.sumN_cons]
          have h1 := ih fun q hq => hh q (List.mem_cons_of_mem _ hq)
          have h2 := hh p List.mem_cons_self
          omega
      exact this _ fun p hp => (hS p (List.mem_of_mem_drop hp)).2.2.1
    rw [hdr, Reg.sumN_cons] at hdone
    rw [hdr] at hwr
    have hw1 : IntKind.i64.wrap ((i : Int) + 1) = i + 1 := w64 (by omega) (by omega)
    generalize l[i] = x at *
    obtain ⟨hx1, hx2, hx3, hx5, hx4⟩ := hall
    have hNi : N + g * i + g ≤ N + g * l.length := by
      have := Nat.mul_le_mul_left g (show i + 1 ≤ l.length from hlt')
      rw [Nat.mul_succ] at this; omega
    obtain ⟨m, hm⟩ : ∃ m : Nat, x.n = m := ⟨x.n.toNat, by omega⟩
    have hpx : pc x = [.int .i64 x.a, .int .i64 (m : Int), .int .i64 x.v, .int .i64 x.f, .int .i64 x.p] := by rw [← hm]; rfl
    rw [hpx]
    refine d_new _ d fun bx w d => ?_
    have hw2 : IntKind.i64.wrap ((done : Int) + m) = ((done + m : Nat) : Int) := by rw [w64 (by omega) (by omega)]; omega
    rw [hsv]
    repeat (first | refine drw d fun w d => ?_ | (simp +decide only [SEM]) | (apply ldm d; (focus ((repeat (first | exact .h _ | refine .t _ _ ?_)); done)); (focus rfl)) | (apply lam d; (focus ((repeat (first | exact .h _ | refine .t _ _ ?_)); done)); (focus rfl)) | (((repeat (refine bld_c rfl rfl (by simp) ?_; simp only [List.set_cons_zero, List.set_cons_succ])); refine bld_n ?_)) | (refine d_new _ d fun bn w d => ?_) | refine bsl1 (by first | rfl | (simp only [cells_agg, cells_int, cells_bool, cells_ptr, cells_sl, cells_map, cells_fn, List.drop_succ_cons, List.drop_zero, List.take_succ_cons, List.take_zero, Nat.zero_add, Nat.reduceAdd, Int.toNat_natCast, Int.toNat_zero]; rfl)) rfl d (by decide) (by decide) fun bn w d => ?_ | refine bsl2 rfl rfl d fun bn w d => ?_ | refine bsl0 d fun bn w d => ?_ | refine qt d ?_ | refine qe_nil ?_ | refine qe_fa ?_ | refine qe_len ?_ | (apply qlm; (focus ((repeat (first | exact .h _ | refine .t _ _ ?_)); done)); (focus rfl)) | (apply qam; (focus ((repeat (first | exact .h _ | refine .t _ _ ?_)); done)); (focus rfl)) | refine qe _ (fun w d => by ((repeat (refine bld_c rfl rfl (by simp) ?_; simp only [List.set_cons_zero, List.set_cons_succ])); refine bld_n ?_); exact ⟨rfl, rfl⟩) ?_ | refine qe_ext rfl ?_ | refine qe_op (fun _ _ => BinI_add) ?_ | refine qe_op (fun _ _ => BinI_sub) ?_ | refine qe_op (fun _ _ => BinI_mul) ?_ | refine qe_op (fun _ _ => BinI_eql) ?_ | refine qe_op (fun _ _ => BinI_neq) ?_ | refine qe_op (fun _ _ => BinI_lss) ?_ | refine qe_op (fun _ _ => BinI_leq) ?_ | refine qe_op (fun _ _ => BinI_gtr) ?_ | refine qe_op (fun _ _ => BinI_geq) ?_ | refine qe_op (fun _ _ => Un_not _) ?_ | refine qia (by first | omega | (simp; omega)) ?_ | refine qia0 (by first | omega | (simp; omega)) ?_ | (focus (apply qln; (focus ((repeat (first | exact .h _ | refine .t _ _ ?_)); done)); (focus exact fun _ => rfl); rotate_left; (focus (first | omega | (simp; done) | (simp; omega))))) | (focus (apply ql1; (focus ((repeat (first | exact .h _ | refine .t _ _ ?_)); done)); (focus exact fun _ => rfl); (focus rfl); rotate_left; (focus (first | omega | (simp; done) | (simp; omega))))) | (focus (apply ql0; (focus ((repeat (first | exact .h _ | refine .t _ _ ?_)); done)); (focus exact fun _ => rfl); (focus rfl); rotate_left; (focus (first | omega | (simp; done) | (simp; omega))))) | (apply swm d; (focus ((repeat (first | exact .h _ | apply Rp.t)); done)); (focus rfl); (focus rfl); (focus exact ones rfl); intro w d; simp only [SPL] at d) | (apply stm d; (focus ((repeat (first | exact .h _ | apply Rp.t)); done)); (focus rfl); (focus simp); (focus exact ones rfl); intro w d; simp only [SPL] at d) | (apply lpm d; (focus ((repeat (first | exact .h _ | refine .t _ _ ?_)); done)); (focus (simp only [SEM]; rfl)); (focus rfl)) | (focus (apply rw_fld d; (focus ((repeat (first | exact .h _ | refine .t _ _ ?_)); done)); (focus exact fun _ => rfl); (focus rfl); rotate_left; (focus (first | omega | (simp; done) | (simp; omega))))) | (focus (apply rw_el1 d; (focus ((repeat (first | exact .h _ | refine .t _ _ ?_)); done)); (focus exact fun _ => rfl); (focus rfl); rotate_left; (focus (first | omega | (simp; done) | (simp; omega))))) | (focus (apply rw_elN d; (focus ((repeat (first | exact .h _ | refine .t _ _ ?_)); done)); (focus exact fun _ => rfl); rotate_left; (focus (first | omega | (simp; done) | (simp; omega))))) | (focus (apply rw_fld0 d; (focus ((repeat (first | exact .h _ | refine .t _ _ ?_)); done)); (focus exact fun _ => rfl); (focus rfl); rotate_left; (focus (first | omega | (simp; done) | (simp; omega))))) | (focus (apply rw_el10 d; (focus ((repeat (first | exact .h _ | refine .t _ _ ?_)); done)); (focus exact fun _ => rfl); (focus rfl); rotate_left; (focus (first | omega | (simp; done) | (simp; omega))))) | (focus (apply rw_elN0 d; (focus ((repeat (first | exact .h _ | refine .t _ _ ?_)); done)); (focus exact fun _ => rfl); rotate_left; (focus (first | omega | (simp; done) | (simp; omega))))) | refine ch d ?_ | refine ch (D.tail d) ?_ | refine ch (D.tail (D.tail d)) ?_ | refine ch (D.tail (D.tail (D.tail d))) ?_ | refine qe _ (fun w d => max2_ok ⟨rfl, rfl⟩) ?_ | refine qe _ (fun w d => min2_ok ⟨rfl, rfl⟩) ?_ | refine max2_ok ?_ | refine min2_ok ?_ | refine bsl3 rfl rfl rfl d fun bn w d => ?_ | refine qe_op (fun _ _ => BinI_quo rfl) ?_ | refine qe_op (fun _ _ => BinI_rem rfl) ?_ | refine qe_op (fun _ _ => BinI_or) ?_ | refine qe_op (fun _ _ => BinI_and) ?_ | refine qe_op (fun _ _ => BinI_andNot) ?_ | refine qe_op (fun _ _ => BinI_shl) ?_ | refine qe_op (fun _ _ => BinI_shr) ?_)
    rw [hw2]
    have hsee : SeesBA w0 A (Proofs.Ytgkbbihaaichbaa.takeV (done + m - done) (Proofs.Ytgkbbihaaichbaa.dropV done (.slice sp data.length sc))) ((data.drop done).take m) := fun L w d => by
      have h1 := (hA L w d).dropV (i := done) hdn
      rw [hsv] at h1
      have h2 := h1.takeV (i := m) (by rw [List.length_drop]; omega)
      rwa [Nat.add_sub_cancel_left]
    refine qe _ (fun w d => (hsv ▸ hA _ _ (D.sel [4] d) : SeesB w (.slice sp data.length sc) data).slc_both (by omega) (by omega) ⟨rfl, rfl⟩) ?_
    have hml : ((data.drop done).take m).length = m := by rw [List.length_take, List.length_drop]; omega
    repeat (first | refine drw d fun w d => ?_ | (simp +decide only [SEM]) | (apply ldm d; (focus ((repeat (first | exact .h _ | refine .t _ _ ?_)); done)); (focus rfl)) | (apply lam d; (focus ((repeat (first | exact .h _ | refine .t _ _ ?_)); done)); (focus rfl)) | (((repeat (refine bld_c rfl rfl (by simp) ?_; simp only [List.set_cons_zero, List.set_cons_succ])); refine bld_n ?_)) | (refine d_new _ d fun bn w d => ?_) | refine bsl1 (by first | rfl | (simp only [cells_agg, cells_int, cells_bool, cells_ptr, cells_sl, cells_map, cells_fn, List.drop_succ_cons, List.drop_zero, List.take_succ_cons, List.take_zero, Nat.zero_add, Nat.reduceAdd, Int.toNat_natCast, Int.toNat_zero]; rfl)) rfl d (by decide) (by decide) fun bn w d => ?_ | refine bsl2 rfl rfl d fun bn w d => ?_ | refine bsl0 d fun bn w d => ?_ | refine qt d ?_ | refine qe_nil ?_ | refine qe_fa ?_ | refine qe_len ?_ | (apply qlm; (focus ((repeat (first | exact .h _ | refine .t _ _ ?_)); done)); (focus rfl)) | (apply qam; (focus ((repeat (first | exact .h _ | refine .t _ _ ?_)); done)); (focus rfl)) | refine qe _ (fun w d => by ((repeat (refine bld_c rfl rfl (by simp) ?_; simp only [List.set_cons_zero, List.set_cons_succ])); refine bld_n ?_); exact ⟨rfl, rfl⟩) ?_ | refine qe_ext rfl ?_ | refine qe_op (fun _ _ => BinI_add) ?_ | refine qe_op (fun _ _ => BinI_sub) ?_ | refine qe_op (fun _ _ => BinI_mul) ?_ | refine qe_op (fun _ _ => BinI_eql) ?_ | refine qe_op (fun _ _ => BinI_neq) ?_ | refine qe_op (fun _ _ => BinI_lss) ?_ | refine qe_op (fun _ _ => BinI_leq) ?_ | refine qe_op (fun _ _ => BinI_gtr) ?_ | refine qe_op (fun _ _ => BinI_geq) ?_ | refine qe_op (fun _ _ => Un_not _) ?_ | refine qia (by first | omega | (simp; omega)) ?_ | refine qia0 (by first | omega | (simp; omega)) ?_ | (focus (apply qln; (focus ((repeat (first | exact .h _ | refine .t _ _ ?_)); done)); (focus exact fun _ => rfl); rotate_left; (focus (first | omega | (simp; done) | (simp; omega))))) | (focus (apply ql1; (focus ((repeat (first | exact .h _ | refine .t _ _ ?_)); done)); (focus exact fun _ => rfl); (focus rfl); rotate_left; (focus (first | omega | (simp; done) | (simp; omega))))) | (focus (apply ql0; (focus ((repeat (first | exact .h _ | refine .t _ _ ?_)); done)); (focus exact fun _ => rfl); (focus rfl); rotate_left; (focus (first | omega | (simp; done) | (simp; omega))))) | (apply swm d; (focus ((repeat (first | exact .h _ | apply Rp.t)); done)); (focus rfl); (focus rfl); (focus exact ones rfl); intro w d; simp only [SPL] at d) | (apply stm d; (focus ((repeat (first | exact .h _ | apply Rp.t)); done)); (focus rfl); (focus simp); (focus exact ones rfl); intro w d; simp only [SPL] at d) | (apply lpm d; (focus ((repeat (first | exact .h _ | refine .t _ _ ?_)); done)); (focus (simp only [SEM]; rfl)); (focus rfl)) | (focus (apply rw_fld d; (focus ((repeat (first | exact .h _ | refine .t _ _ ?_)); done)); (focus exact fun _ => rfl); (focus rfl); rotate_left; (focus (first | omega | (simp; done) | (simp; omega))))) | (focus (apply rw_el1 d; (focus ((repeat (first | exact .h _ | refine .t _ _ ?_)); done)); (focus exact fun _ => rfl); (focus rfl); rotate_left; (focus (first | omega | (simp; done) | (simp; omega))))) | (focus (apply rw_elN d; (focus ((repeat (first | exact .h _ | refine .t _ _ ?_)); done)); (focus exact fun _ => rfl); rotate_left; (focus (first | omega | (simp; done) | (simp; omega))))) | (focus (apply rw_fld0 d; (focus ((repeat (first | exact .h _ | refine .t _ _ ?_)); done)); (focus exact fun _ => rfl); (focus rfl); rotate_left; (focus (first | omega | (simp; done) | (simp; omega))))) | (focus (apply rw_el10 d; (focus ((repeat (first | exact .h _ | refine .t _ _ ?_)); done)); (focus exact fun _ => rfl); (focus rfl); rotate_left; (focus (first | omega | (simp; done) | (simp; omega))))) | (focus (apply rw_elN0 d; (focus ((repeat (first | exact .h _ | refine .t _ _ ?_)); done)); (focus exact fun _ => rfl); rotate_left; (focus (first | omega | (simp; done) | (simp; omega))))) | refine ch d ?_ | refine ch (D.tail d) ?_ | refine ch (D.tail (D.tail d)) ?_ | refine ch (D.tail (D.tail (D.tail d))) ?_ | refine qe _ (fun w d => max2_ok ⟨rfl, rfl⟩) ?_ | refine qe _ (fun w d => min2_ok ⟨rfl, rfl⟩) ?_ | refine max2_ok ?_ | refine min2_ok ?_ | refine bsl3 rfl rfl rfl d fun bn w d => ?_ | refine qe_op (fun _ _ => BinI_quo rfl) ?_ | refine qe_op (fun _ _ => BinI_rem rfl) ?_ | refine qe_op (fun _ _ => BinI_or) ?_ | refine qe_op (fun _ _ => BinI_and) ?_ | refine qe_op (fun _ _ => BinI_andNot) ?_ | refine qe_op (fun _ _ => BinI_shl) ?_ | refine qe_op (fun _ _ => BinI_shr) ?_)
    refine fn40 (fun _ _ => rfl) (onw_ok (data := (data.drop done).take m) hx1 hx2 (by rw [hml]; omega) (by omega) (fun a => hg a _ (by rw [hml]; omega)) hon (by omega) hsee (D.sel [4, 5] d) fun F2 pl2 w hon2 d => ?_)
    have d : D w0 (A :: Vs b last mo cap F2 [ob sz fb c pl2] :: cel bx 72 [.int .i64 x.a, .int .i64 (m : Int), .int .i64 x.v, .int .i64 x.f, .int .i64 x.p] :: Rw 72 5 (.slice q l.length cc) l.length (l.flatMap pc) :: cel bs 64 [.pointer (some ⟨b, 0, none⟩), .pointer (some ⟨br, 0, none⟩), .int .i64 size, .int .i64 most] :: Reg.Rg br size most S :: L) w := d
    repeat (first | refine drw d fun w d => ?_ | (simp +decide only [SEM]) | (apply ldm d; (focus ((repeat (first | exact .h _ | refine .t _ _ ?_)); done)); (focus rfl)) | (apply lam d; (focus ((repeat (first | exact .h _ | refine .t _ _ ?_)); done)); (focus rfl)) | (((repeat (refine bld_c rfl rfl (by simp) ?_; simp only [List.set_cons_zero, List.set_cons_succ])); refine bld_n ?_)) | (refine d_new _ d fun bn w d => ?_) | refine bsl1 (by first | rfl | (simp only [cells_agg, cells_int, cells_bool, cells_ptr, cells_sl, cells_map, cells_fn, List.drop_succ_cons, List.drop_zero, List.take_succ_cons, List.take_zero, Nat.zero_add, Nat.reduceAdd, Int.toNat_natCast, Int.toNat_zero]; rfl)) rfl d (by decide) (by decide) fun bn w d => ?_ | refine bsl2 rfl rfl d fun bn w d => ?_ | refine bsl0 d fun bn w d => ?_ | refine qt d ?_ | refine qe_nil ?_ | refine qe_fa ?_ | refine qe_len ?_ | (apply qlm; (focus ((repeat (first | exact .h _ | refine .t _ _ ?_)); done)); (focus rfl)) | (apply qam; (focus ((repeat (first | exact .h _ | refine .t _ _ ?_)); done)); (focus rfl)) | refine qe _ (fun w d => by ((repeat (refine bld_c rfl rfl (by simp) ?_; simp only [List.set_cons_zero, List.set_cons_succ])); refine bld_n ?_); exact ⟨rfl, rfl⟩) ?_ | refine qe_ext rfl ?_ | refine qe_op (fun _ _ => BinI_add) ?_ | refine qe_op (fun _ _ => BinI_sub) ?_ | refine qe_op (fun _ _ => BinI_mul) ?_ | refine qe_op (fun _ _ => BinI_eql) ?_ | refine qe_op (fun _ _ => BinI_neq) ?_ | refine qe_op (fun _ _ => BinI_lss) ?_ | refine qe_op (fun _ _ => BinI_leq) ?_ | refine qe_op (fun _ _ => BinI_gtr) ?_ | refine qe_op (fun _ _ => BinI_geq) ?_ | refine qe_op (fun _ _ => Un_not _) ?_ | refine qia (by first | omega | (simp; omega)) ?_ | refine qia0 (by first | omega | (simp; omega)) ?_ | (focus (apply qln; (focus ((repeat (first | exact .h _ | refine .t _ _ ?_)); done)); (focus exact fun _ => rfl); rotate_left; (focus (first | omega | (simp; done) | (simp; omega))))) | (focus (apply ql1; (focus ((repeat (first | exact .h _ | refine .t _ _ ?_)); done)); (focus exact fun _ => rfl); (focus rfl); rotate_left; (focus (first | omega | (simp; done) | (simp; omega))))) | (focus (apply ql0; (focus ((repeat (first | exact .h _ | refine .t _ _ ?_)); done)); (focus exact fun _ => rfl); (focus rfl); rotate_left; (focus (first | omega | (simp; done) | (simp; omega))))) | (apply swm d; (focus ((repeat (first | exact .h _ | apply Rp.t)); done)); (focus rfl); (focus rfl); (focus exact ones rfl); intro w d; simp only [SPL] at d) | (apply stm d; (focus ((repeat (first | exact .h _ | apply Rp.t)); done)); (focus rfl); (focus simp); (focus exact ones rfl); intro w d; simp only [SPL] at d) | (apply lpm d; (focus ((repeat (first | exact .h _ | refine .t _ _ ?_)); done)); (focus (simp only [SEM]; rfl)); (focus rfl)) | (focus (apply rw_fld d; (focus ((repeat (first | exact .h _ | refine .t _ _ ?_)); done)); (focus exact fun _ => rfl); (focus rfl); rotate_left; (focus (first | omega | (simp; done) | (simp; omega))))) | (focus (apply rw_el1 d; (focus ((repeat (first | exact .h _ | refine .t _ _ ?_)); done)); (focus exact fun _ => rfl); (focus rfl); rotate_left; (focus (first | omega | (simp; done) | (simp; omega))))) | (focus (apply rw_elN d; (focus ((repeat (first | exact .h _ | refine .t _ _ ?_)); done)); (focus exact fun _ => rfl); rotate_left; (focus (first | omega | (simp; done) | (simp; omega))))) | (focus (apply rw_fld0 d; (focus ((repeat (first | exact .h _ | refine .t _ _ ?_)); done)); (focus exact fun _ => rfl); (focus rfl); rotate_left; (focus (first | omega | (simp; done) | (simp; omega))))) | (focus (apply rw_el10 d; (focus ((repeat (first | exact .h _ | refine .t _ _ ?_)); done)); (focus exact fun _ => rfl); (focus rfl); rotate_left; (focus (first | omega | (simp; done) | (simp; omega))))) | (focus (apply rw_elN0 d; (focus ((repeat (first | exact .h _ | refine .t _ _ ?_)); done)); (focus exact fun _ => rfl); rotate_left; (focus (first | omega | (simp; done) | (simp; omega))))) | refine ch d ?_ | refine ch (D.tail d) ?_ | refine ch (D.tail (D.tail d)) ?_ | refine ch (D.tail (D.tail (D.tail d))) ?_ | refine qe _ (fun w d => max2_ok ⟨rfl, rfl⟩) ?_ | refine qe _ (fun w d => min2_ok ⟨rfl, rfl⟩) ?_ | refine max2_ok ?_ | refine min2_ok ?_ | refine bsl3 rfl rfl rfl d fun bn w d => ?_ | refine qe_op (fun _ _ => BinI_quo rfl) ?_ | refine qe_op (fun _ _ => BinI_rem rfl) ?_ | refine qe_op (fun _ _ => BinI_or) ?_ | refine qe_op (fun _ _ => BinI_and) ?_ | refine qe_op (fun _ _ => BinI_andNot) ?_ | refine qe_op (fun _ _ => BinI_shl) ?_ | refine qe_op (fun _ _ => BinI_shr) ?_)
    rw [hw1, hw2]
    refine ⟨⟨i + 1, done + m, u1, u2, F2, pl2, _, by simp, by omega, by omega, by omega, by rw [Nat.mul_succ, ← Nat.add_assoc]; exact hon2, ?_, (D.sel [3, 4, 5, 0, 1] d |> fun d => (D.sel [5] d).tail)⟩, by omega⟩
    rw [← hwr]
    show _ = wrL (wr B1 x.f.toNat ((data.drop done).take x.n.toNat)) (l.drop (i + 1)) ((data.drop done).drop x.n.toNat)
    rw [hm, Int.toNat_natCast, List.drop_drop]
  · have hi' : i = l.length := by omega
    subst hi'
    rw [List.drop_length] at hdone hwr
    have hdd : done = data.length := by simp [sumN] at hdone; omega
    subst hdd
    rw [List.drop_length] at hwr
    refine k1 hpo F1 pl1 w (by rw [← hwr]; exact hon) (D.sel [3, 1, 4, 2] d |> fun d => (D.sel [4] d).tail)
end
end Go.Proofs.Ytgkbbihaaichbaa

set_option maxRecDepth 100000
set_option maxHeartbeats 1600000
namespace Go.Proofs.Ytgkbbihaaichbaa
open Go Go.Jac
open Reg (Pc pc pc_len inP sumN insP PutOk Rok)
section
variable {w0 w : World} {L : List HP} {K : Value → WP} {b : Nat}
theorem bsl4 {elem : Nat} {zero : Array Value} {x y z u : Value} (hx : x.cells = #[x]) (hy : y.cells = #[y]) (hz : z.cells = #[z]) (hu : u.cells = #[u]) (d : D w0 L w) (k : ∀ b w', D w0 (cel b elem [x, y, z, u] :: L) w' → K (.slice (some ⟨b, 0, none⟩) 4 4) w') : BSlC elem 1 zero 4 #[(0, x), (1, y), (2, z), (3, u)] K w := by
  refine d_bsl [x, y, z, u] d (by decide) ?_ k
  have e : ((Array.range (4 * 1)).map (zero[· % zero.size]!)) = [zero[0 % zero.size]!, zero[1 % zero.size]!, zero[2 % zero.size]!, zero[3 % zero.size]!].toArray := by
    apply Array.ext'
    simp [Array.toList_range, List.range_succ]
  rw [e]
  exact fill1 rfl hx (by simp) (fill1 rfl hy (by simp) (fill1 rfl hz (by simp) (fill1 rfl hu (by simp) rfl)))
theorem On.new {cap sz : Int} {fb c : Nat} (hc : 0 ≤ cap ∧ cap ≤ 65536) (hs : 0 ≤ sz ∧ sz ≤ 4294967296) : On cap sz fb c [] [] (fun _ => 0) 0 :=
  ⟨(VW.nil hc).new (id := 1) (fb := fb) (c := c) rfl hs, fun _ => rfl, Nat.le_refl _⟩
/-- The first object. -/
theorem first_ok {cap mo n sz : Int} (hc : 0 ≤ cap ∧ cap ≤ 65536) (hm : 0 < mo) (hn : 0 ≤ n ∧ n ≤ 4294967296) (hsz : (n + 63) / 64 * 64 = sz) (d : D w0 (Vs b 0 mo cap [] [] :: L) w) (k : ∀ fb c w', D w0 (Vs b 1 mo cap [] [ob sz fb c []] :: L) w' → K (.tuple #[.int .i64 1, .int .i64 0]) w') :
    Cl pg 9 #[.pointer (some ⟨b, 0, none⟩), .int .i64 n] K w := by
  subst hsz
  exact VCreate_ok (n := n) hn (VW.nil hc).nd (by simpa using hm) (by omega) rfl rfl (by simp) d fun fb c w d => k fb c w d
theorem awake10_ok (d : D w0 L w) (k : ∀ w', D w0 L w' → K (.bool true) w') : Cl pg 8 #[] K w := by
  refine V.jacinthlaw10_awake_ok ?_
  unfold V.jacinthlaw10_awake
  refine fn20 (fun _ _ => rfl) (VNew_ok (cap := 8) (n := 4) (by omega) (by omega) d fun b w d => ?_)
  repeat (first | refine drw d fun w d => ?_ | (simp +decide only [SEM]) | (apply ldm d; (focus ((repeat (first | exact .h _ | refine .t _ _ ?_)); done)); (focus rfl)) | (apply lam d; (focus ((repeat (first | exact .h _ | refine .t _ _ ?_)); done)); (focus rfl)) | (((repeat (refine bld_c rfl rfl (by simp) ?_; simp only [List.set_cons_zero, List.set_cons_succ])); refine bld_n ?_)) | (refine d_new _ d fun bn w d => ?_) | refine bsl1 (by first | rfl | (simp only [cells_agg, cells_int, cells_bool, cells_ptr, cells_sl, cells_map, cells_fn, List.drop_succ_cons, List.drop_zero, List.take_succ_cons, List.take_zero, Nat.zero_add, Nat.reduceAdd, Int.toNat_natCast, Int.toNat_zero]; rfl)) rfl d (by decide) (by decide) fun bn w d => ?_ | refine bsl2 rfl rfl d fun bn w d => ?_ | refine bsl0 d fun bn w d => ?_ | refine qt d ?_ | refine qe_nil ?_ | refine qe_fa ?_ | refine qe_len ?_ | (apply qlm; (focus ((repeat (first | exact .h _ | refine .t _ _ ?_)); done)); (focus rfl)) | (apply qam; (focus ((repeat (first | exact .h _ | refine .t _ _ ?_)); done)); (focus rfl)) | refine qe _ (fun w d => by ((repeat (refine bld_c rfl rfl (by simp) ?_; simp only [List.set_cons_zero, List.set_cons_succ])); refine bld_n ?_); exact ⟨rfl, rfl⟩) ?_ | refine qe_ext rfl ?_ | refine qe_op (fun _ _ => BinI_add) ?_ | refine qe_op (fun _ _ => BinI_sub) ?_ | refine qe_op (fun _ _ => BinI_mul) ?_ | refine qe_op (fun _ _ => BinI_eql) ?_ | refine qe_op (fun _ _ => BinI_neq) ?_ | refine qe_op (fun _ _ => BinI_lss) ?_ | refine qe_op (fun _ _ => BinI_leq) ?_ | refine qe_op (fun _ _ => BinI_gtr) ?_ | refine qe_op (fun _ _ => BinI_geq) ?_ | refine qe_op (fun _ _ => Un_not _) ?_ | refine qia (by first | omega | (simp; omega)) ?_ | refine qia0 (by first | omega | (simp; omega)) ?_ | (focus (apply qln; (focus ((repeat (first | exact .h _ | refine .t _ _ ?_)); done)); (focus exact fun _ => rfl); rotate_left; (focus (first | omega | (simp; done) | (simp; omega))))) | (focus (apply ql1; (focus ((repeat (first | exact .h _ | refine .t _ _ ?_)); done)); (focus exact fun _ => rfl); (focus rfl); rotate_left; (focus (first | omega | (simp; done) | (simp; omega))))) | (focus (apply ql0; (focus ((repeat (first | exact .h _ | refine .t _ _ ?_)); done)); (focus exact fun _ => rfl); (focus rfl); rotate_left; (focus (first | omega | (simp; done) | (simp; omega))))) | (apply swm d; (focus ((repeat (first | exact .h _ | apply Rp.t)); done)); (focus rfl); (focus rfl); (focus exact ones rfl); intro w d; simp only [SPL] at d) | (apply stm d; (focus ((repeat (first | exact .h _ | apply Rp.t)); done)); (focus rfl); (focus simp); (focus exact ones rfl); intro w d; simp only [SPL] at d) | (apply lpm d; (focus ((repeat (first | exact .h _ | refine .t _ _ ?_)); done)); (focus (simp only [SEM]; rfl)); (focus rfl)) | (focus (apply rw_fld d; (focus ((repeat (first | exact .h _ | refine .t _ _ ?_)); done)); (focus exact fun _ => rfl); (focus rfl); rotate_left; (focus (first | omega | (simp; done) | (simp; omega))))) | (focus (apply rw_el1 d; (focus ((repeat (first | exact .h _ | refine .t _ _ ?_)); done)); (focus exact fun _ => rfl); (focus rfl); rotate_left; (focus (first | omega | (simp; done) | (simp; omega))))) | (focus (apply rw_elN d; (focus ((repeat (first | exact .h _ | refine .t _ _ ?_)); done)); (focus exact fun _ => rfl); rotate_left; (focus (first | omega | (simp; done) | (simp; omega))))) | (focus (apply rw_fld0 d; (focus ((repeat (first | exact .h _ | refine .t _ _ ?_)); done)); (focus exact fun _ => rfl); (focus rfl); rotate_left; (focus (first | omega | (simp; done) | (simp; omega))))) | (focus (apply rw_el10 d; (focus ((repeat (first | exact .h _ | refine .t _ _ ?_)); done)); (focus exact fun _ => rfl); (focus rfl); rotate_left; (focus (first | omega | (simp; done) | (simp; omega))))) | (focus (apply rw_elN0 d; (focus ((repeat (first | exact .h _ | refine .t _ _ ?_)); done)); (focus exact fun _ => rfl); rotate_left; (focus (first | omega | (simp; done) | (simp; omega))))) | refine ch d ?_ | refine ch (D.tail d) ?_ | refine ch (D.tail (D.tail d)) ?_ | refine ch (D.tail (D.tail (D.tail d))) ?_ | refine qe _ (fun w d => max2_ok ⟨rfl, rfl⟩) ?_ | refine qe _ (fun w d => min2_ok ⟨rfl, rfl⟩) ?_ | refine max2_ok ?_ | refine min2_ok ?_ | refine bsl3 rfl rfl rfl d fun bn w d => ?_ | refine qe_op (fun _ _ => BinI_quo rfl) ?_ | refine qe_op (fun _ _ => BinI_rem rfl) ?_ | refine qe_op (fun _ _ => BinI_or) ?_ | refine qe_op (fun _ _ => BinI_and) ?_ | refine qe_op (fun _ _ => BinI_andNot) ?_ | refine qe_op (fun _ _ => BinI_shl) ?_ | refine qe_op (fun _ _ => BinI_shr) ?_)
  refine fn20 (fun _ _ => rfl) (first_ok (by omega) (by omega) (by omega) (sz := 128) rfl d fun fb c w d => ?_)
  have on0 : On 8 128 fb c [] [] (fun _ => 0) 0 := On.new (by omega) (by omega)
  refine fn30 (fun _ _ => rfl) (SNew_ok (by omega) rfl (by omega) d fun bs br w d => ?_)
  repeat (first | refine drw d fun w d => ?_ | (simp +decide only [SEM]) | (apply ldm d; (focus ((repeat (first | exact .h _ | refine .t _ _ ?_)); done)); (focus rfl)) | (apply lam d; (focus ((repeat (first | exact .h _ | refine .t _ _ ?_)); done)); (focus rfl)) | (((repeat (refine bld_c rfl rfl (by simp) ?_; simp only [List.set_cons_zero, List.set_cons_succ])); refine bld_n ?_)) | (refine d_new _ d fun bn w d => ?_) | refine bsl1 (by first | rfl | (simp only [cells_agg, cells_int, cells_bool, cells_ptr, cells_sl, cells_map, cells_fn, List.drop_succ_cons, List.drop_zero, List.take_succ_cons, List.take_zero, Nat.zero_add, Nat.reduceAdd, Int.toNat_natCast, Int.toNat_zero]; rfl)) rfl d (by decide) (by decide) fun bn w d => ?_ | refine bsl2 rfl rfl d fun bn w d => ?_ | refine bsl0 d fun bn w d => ?_ | refine qt d ?_ | refine qe_nil ?_ | refine qe_fa ?_ | refine qe_len ?_ | (apply qlm; (focus ((repeat (first | exact .h _ | refine .t _ _ ?_)); done)); (focus rfl)) | (apply qam; (focus ((repeat (first | exact .h _ | refine .t _ _ ?_)); done)); (focus rfl)) | refine qe _ (fun w d => by ((repeat (refine bld_c rfl rfl (by simp) ?_; simp only [List.set_cons_zero, List.set_cons_succ])); refine bld_n ?_); exact ⟨rfl, rfl⟩) ?_ | refine qe_ext rfl ?_ | refine qe_op (fun _ _ => BinI_add) ?_ | refine qe_op (fun _ _ => BinI_sub) ?_ | refine qe_op (fun _ _ => BinI_mul) ?_ | refine qe_op (fun _ _ => BinI_eql) ?_ | refine qe_op (fun _ _ => BinI_neq) ?_ | refine qe_op (fun _ _ => BinI_lss) ?_ | refine qe_op (fun _ _ => BinI_leq) ?_ | refine qe_op (fun _ _ => BinI_gtr) ?_ | refine qe_op (fun _ _ => BinI_geq) ?_ | refine qe_op (fun _ _ => Un_not _) ?_ | refine qia (by first | omega | (simp; omega)) ?_ | refine qia0 (by first | omega | (simp; omega)) ?_ | (focus (apply qln; (focus ((repeat (first | exact .h _ | refine .t _ _ ?_)); done)); (focus exact fun _ => rfl); rotate_left; (focus (first | omega | (simp; done) | (simp; omega))))) | (focus (apply ql1; (focus ((repeat (first | exact .h _ | refine .t _ _ ?_)); done)); (focus exact fun _ => rfl); (focus rfl); rotate_left; (focus (first | omega | (simp; done) | (simp; omega))))) | (focus (apply ql0; (focus ((repeat (first | exact .h _ | refine .t _ _ ?_)); done)); (focus exact fun _ => rfl); (focus rfl); rotate_left; (focus (first | omega | (simp; done) | (simp; omega))))) | (apply swm d; (focus ((repeat (first | exact .h _ | apply Rp.t)); done)); (focus rfl); (focus rfl); (focus exact ones rfl); intro w d; simp only [SPL] at d) | (apply stm d; (focus ((repeat (first | exact .h _ | apply Rp.t)); done)); (focus rfl); (focus simp); (focus exact ones rfl); intro w d; simp only [SPL] at d) | (apply lpm d; (focus ((repeat (first | exact .h _ | refine .t _ _ ?_)); done)); (focus (simp only [SEM]; rfl)); (focus rfl)) | (focus (apply rw_fld d; (focus ((repeat (first | exact .h _ | refine .t _ _ ?_)); done)); (focus exact fun _ => rfl); (focus rfl); rotate_left; (focus (first | omega | (simp; done) | (simp; omega))))) | (focus (apply rw_el1 d; (focus ((repeat (first | exact .h _ | refine .t _ _ ?_)); done)); (focus exact fun _ => rfl); (focus rfl); rotate_left; (focus (first | omega | (simp; done) | (simp; omega))))) | (focus (apply rw_elN d; (focus ((repeat (first | exact .h _ | refine .t _ _ ?_)); done)); (focus exact fun _ => rfl); rotate_left; (focus (first | omega | (simp; done) | (simp; omega))))) | (focus (apply rw_fld0 d; (focus ((repeat (first | exact .h _ | refine .t _ _ ?_)); done)); (focus exact fun _ => rfl); (focus rfl); rotate_left; (focus (first | omega | (simp; done) | (simp; omega))))) | (focus (apply rw_el10 d; (focus ((repeat (first | exact .h _ | refine .t _ _ ?_)); done)); (focus exact fun _ => rfl); (focus rfl); rotate_left; (focus (first | omega | (simp; done) | (simp; omega))))) | (focus (apply rw_elN0 d; (focus ((repeat (first | exact .h _ | refine .t _ _ ?_)); done)); (focus exact fun _ => rfl); rotate_left; (focus (first | omega | (simp; done) | (simp; omega))))) | refine ch d ?_ | refine ch (D.tail d) ?_ | refine ch (D.tail (D.tail d)) ?_ | refine ch (D.tail (D.tail (D.tail d))) ?_ | refine qe _ (fun w d => max2_ok ⟨rfl, rfl⟩) ?_ | refine qe _ (fun w d => min2_ok ⟨rfl, rfl⟩) ?_ | refine max2_ok ?_ | refine min2_ok ?_ | refine bsl3 rfl rfl rfl d fun bn w d => ?_ | refine qe_op (fun _ _ => BinI_quo rfl) ?_ | refine qe_op (fun _ _ => BinI_rem rfl) ?_ | refine qe_op (fun _ _ => BinI_or) ?_ | refine qe_op (fun _ _ => BinI_and) ?_ | refine qe_op (fun _ _ => BinI_andNot) ?_ | refine qe_op (fun _ _ => BinI_shl) ?_ | refine qe_op (fun _ _ => BinI_shr) ?_)
  have d : D w0 (Sp bs b br 512 4 :: Vs b 1 4 8 [] [ob 128 fb c []] :: Reg.Rg br 512 4 [] :: L) w := D.sel [0, 2] d
  refine fn60 (fun _ _ => rfl) (Map_ok (at_ := 64) (n := 128) (id := 1) (fr := 0) (prot := 3) ⟨⟨by omega, by omega⟩, ⟨by omega, by omega⟩, ⟨by omega, by omega⟩, ⟨by omega, by omega⟩, ⟨by omega, by omega⟩⟩ on0.vw (by simp) d (fun e w he hh d => ?_) fun x a w hx _ _ _ ha _ hp d => ?_)
  · exfalso
    rcases hh with hh | hh | hh | ⟨x, hx, hh⟩ | ⟨hh, -⟩ | ⟨a, ha, -, hh⟩
    · rw [ob_live] at hh; cases hh
    · omega
    · omega
    · rw [ob_live] at hx
      obtain rfl := Option.some.inj hx
      have hh : (128 : Int) < 0 + 128 := hh
      omega
    · omega
    · rw [ha (by omega)] at hh
      exact hh ⟨by decide, by decide, by decide, by decide, by decide, by decide, by decide, by decide, by simp, by decide⟩
  obtain rfl := ha (by omega)
  have d : D w0 (Sp bs b br 512 4 :: Vs b 1 4 8 [] [ob 128 fb c []] :: Reg.Rg br 512 4 [⟨64, 128, 1, 0, 3⟩] :: L) w := d
  repeat (first | refine drw d fun w d => ?_ | (simp +decide only [SEM]) | (apply ldm d; (focus ((repeat (first | exact .h _ | refine .t _ _ ?_)); done)); (focus rfl)) | (apply lam d; (focus ((repeat (first | exact .h _ | refine .t _ _ ?_)); done)); (focus rfl)) | (((repeat (refine bld_c rfl rfl (by simp) ?_; simp only [List.set_cons_zero, List.set_cons_succ])); refine bld_n ?_)) | (refine d_new _ d fun bn w d => ?_) | refine bsl1 (by first | rfl | (simp only [cells_agg, cells_int, cells_bool, cells_ptr, cells_sl, cells_map, cells_fn, List.drop_succ_cons, List.drop_zero, List.take_succ_cons, List.take_zero, Nat.zero_add, Nat.reduceAdd, Int.toNat_natCast, Int.toNat_zero]; rfl)) rfl d (by decide) (by decide) fun bn w d => ?_ | refine bsl2 rfl rfl d fun bn w d => ?_ | refine bsl0 d fun bn w d => ?_ | refine qt d ?_ | refine qe_nil ?_ | refine qe_fa ?_ | refine qe_len ?_ | (apply qlm; (focus ((repeat (first | exact .h _ | refine .t _ _ ?_)); done)); (focus rfl)) | (apply qam; (focus ((repeat (first | exact .h _ | refine .t _ _ ?_)); done)); (focus rfl)) | refine qe _ (fun w d => by ((repeat (refine bld_c rfl rfl (by simp) ?_; simp only [List.set_cons_zero, List.set_cons_succ])); refine bld_n ?_); exact ⟨rfl, rfl⟩) ?_ | refine qe_ext rfl ?_ | refine qe_op (fun _ _ => BinI_add) ?_ | refine qe_op (fun _ _ => BinI_sub) ?_ | refine qe_op (fun _ _ => BinI_mul) ?_ | refine qe_op (fun _ _ => BinI_eql) ?_ | refine qe_op (fun _ _ => BinI_neq) ?_ | refine qe_op (fun _ _ => BinI_lss) ?_ | refine qe_op (fun _ _ => BinI_leq) ?_ | refine qe_op (fun _ _ => BinI_gtr) ?_ | refine qe_op (fun _ _ => BinI_geq) ?_ | refine qe_op (fun _ _ => Un_not _) ?_ | refine qia (by first | omega | (simp; omega)) ?_ | refine qia0 (by first | omega | (simp; omega)) ?_ | (focus (apply qln; (focus ((repeat (first | exact .h _ | refine .t _ _ ?_)); done)); (focus exact fun _ => rfl); rotate_left; (focus (first | omega | (simp; done) | (simp; omega))))) | (focus (apply ql1; (focus ((repeat (first | exact .h _ | refine .t _ _ ?_)); done)); (focus exact fun _ => rfl); (focus rfl); rotate_left; (focus (first | omega | (simp; done) | (simp; omega))))) | (focus (apply ql0; (focus ((repeat (first | exact .h _ | refine .t _ _ ?_)); done)); (focus exact fun _ => rfl); (focus rfl); rotate_left; (focus (first | omega | (simp; done) | (simp; omega))))) | (apply swm d; (focus ((repeat (first | exact .h _ | apply Rp.t)); done)); (focus rfl); (focus rfl); (focus exact ones rfl); intro w d; simp only [SPL] at d) | (apply stm d; (focus ((repeat (first | exact .h _ | apply Rp.t)); done)); (focus rfl); (focus simp); (focus exact ones rfl); intro w d; simp only [SPL] at d) | (apply lpm d; (focus ((repeat (first | exact .h _ | refine .t _ _ ?_)); done)); (focus (simp only [SEM]; rfl)); (focus rfl)) | (focus (apply rw_fld d; (focus ((repeat (first | exact .h _ | refine .t _ _ ?_)); done)); (focus exact fun _ => rfl); (focus rfl); rotate_left; (focus (first | omega | (simp; done) | (simp; omega))))) | (focus (apply rw_el1 d; (focus ((repeat (first | exact .h _ | refine .t _ _ ?_)); done)); (focus exact fun _ => rfl); (focus rfl); rotate_left; (focus (first | omega | (simp; done) | (simp; omega))))) | (focus (apply rw_elN d; (focus ((repeat (first | exact .h _ | refine .t _ _ ?_)); done)); (focus exact fun _ => rfl); rotate_left; (focus (first | omega | (simp; done) | (simp; omega))))) | (focus (apply rw_fld0 d; (focus ((repeat (first | exact .h _ | refine .t _ _ ?_)); done)); (focus exact fun _ => rfl); (focus rfl); rotate_left; (focus (first | omega | (simp; done) | (simp; omega))))) | (focus (apply rw_el10 d; (focus ((repeat (first | exact .h _ | refine .t _ _ ?_)); done)); (focus exact fun _ => rfl); (focus rfl); rotate_left; (focus (first | omega | (simp; done) | (simp; omega))))) | (focus (apply rw_elN0 d; (focus ((repeat (first | exact .h _ | refine .t _ _ ?_)); done)); (focus exact fun _ => rfl); rotate_left; (focus (first | omega | (simp; done) | (simp; omega))))) | refine ch d ?_ | refine ch (D.tail d) ?_ | refine ch (D.tail (D.tail d)) ?_ | refine ch (D.tail (D.tail (D.tail d))) ?_ | refine qe _ (fun w d => max2_ok ⟨rfl, rfl⟩) ?_ | refine qe _ (fun w d => min2_ok ⟨rfl, rfl⟩) ?_ | refine max2_ok ?_ | refine min2_ok ?_ | refine bsl3 rfl rfl rfl d fun bn w d => ?_ | refine qe_op (fun _ _ => BinI_quo rfl) ?_ | refine qe_op (fun _ _ => BinI_rem rfl) ?_ | refine qe_op (fun _ _ => BinI_or) ?_ | refine qe_op (fun _ _ => BinI_and) ?_ | refine qe_op (fun _ _ => BinI_andNot) ?_ | refine qe_op (fun _ _ => BinI_shl) ?_ | refine qe_op (fun _ _ => BinI_shr) ?_)
  refine bsl4 rfl rfl rfl rfl d fun b4 w d => ?_
  have d : D w0 (cel b4 5 (([97, 98, 99, 100] : List Int).flatMap bI) :: Sp bs b br 512 4 :: Vs b 1 4 8 [] [ob 128 fb c []] :: Reg.Rg br 512 4 [⟨64, 128, 1, 0, 3⟩] :: L) w := d
  refine mark_ok d fun w d => ?_
  refine fn30 (fun _ _ => rfl) (SWrite_ok (at_ := 126) (data := [97, 98, 99, 100]) ⟨by omega, by omega⟩ pg6 (seesB_mark (l := [97, 98, 99, 100]) (by decide)) (by decide) on0 (S := [⟨64, 128, 1, 0, 3⟩]) (fun p hp => ?_) (by decide) (by omega) d (fun e w he hh d => ?_) fun hpo F' pl' w hon d => ?_)
  · rw [show ([⟨64, 128, 1, 0, 3⟩] : List Pc).flatMap (inP 126 (([97, 98, 99, 100] : List Int).length)) = [⟨126, 4, 1, 62, 3⟩] from rfl] at hp
    rw [List.mem_singleton.1 hp]
    exact ⟨rfl, by decide, by decide, by decide, by decide⟩
  · refine absurd ?_ hh
    exact ⟨by decide, by decide, by decide, by decide, by decide, by decide⟩
  rw [show ([⟨64, 128, 1, 0, 3⟩] : List Pc).flatMap (inP 126 (([97, 98, 99, 100] : List Int).length)) = [⟨126, 4, 1, 62, 3⟩] from rfl] at hon
  have hon : On 8 128 fb c F' pl' (wr (fun _ => 0) 62 [97, 98, 99, 100]) 6 := hon
  repeat (first | refine drw d fun w d => ?_ | (simp +decide only [SEM]) | (apply ldm d; (focus ((repeat (first | exact .h _ | refine .t _ _ ?_)); done)); (focus rfl)) | (apply lam d; (focus ((repeat (first | exact .h _ | refine .t _ _ ?_)); done)); (focus rfl)) | (((repeat (refine bld_c rfl rfl (by simp) ?_; simp only [List.set_cons_zero, List.set_cons_succ])); refine bld_n ?_)) | (refine d_new _ d fun bn w d => ?_) | refine bsl1 (by first | rfl | (simp only [cells_agg, cells_int, cells_bool, cells_ptr, cells_sl, cells_map, cells_fn, List.drop_succ_cons, List.drop_zero, List.take_succ_cons, List.take_zero, Nat.zero_add, Nat.reduceAdd, Int.toNat_natCast, Int.toNat_zero]; rfl)) rfl d (by decide) (by decide) fun bn w d => ?_ | refine bsl2 rfl rfl d fun bn w d => ?_ | refine bsl0 d fun bn w d => ?_ | refine qt d ?_ | refine qe_nil ?_ | refine qe_fa ?_ | refine qe_len ?_ | (apply qlm; (focus ((repeat (first | exact .h _ | refine .t _ _ ?_)); done)); (focus rfl)) | (apply qam; (focus ((repeat (first | exact .h _ | refine .t _ _ ?_)); done)); (focus rfl)) | refine qe _ (fun w d => by ((repeat (refine bld_c rfl rfl (by simp) ?_; simp only [List.set_cons_zero, List.set_cons_succ])); refine bld_n ?_); exact ⟨rfl, rfl⟩) ?_ | refine qe_ext rfl ?_ | refine qe_op (fun _ _ => BinI_add) ?_ | refine qe_op (fun _ _ => BinI_sub) ?_ | refine qe_op (fun _ _ => BinI_mul) ?_ | refine qe_op (fun _ _ => BinI_eql) ?_ | refine qe_op (fun _ _ => BinI_neq) ?_ | refine qe_op (fun _ _ => BinI_lss) ?_ | refine qe_op (fun _ _ => BinI_leq) ?_ | refine qe_op (fun _ _ => BinI_gtr) ?_ | refine qe_op (fun _ _ => BinI_geq) ?_ | refine qe_op (fun _ _ => Un_not _) ?_ | refine qia (by first | omega | (simp; omega)) ?_ | refine qia0 (by first | omega | (simp; omega)) ?_ | (focus (apply qln; (focus ((repeat (first | exact .h _ | refine .t _ _ ?_)); done)); (focus exact fun _ => rfl); rotate_left; (focus (first | omega | (simp; done) | (simp; omega))))) | (focus (apply ql1; (focus ((repeat (first | exact .h _ | refine .t _ _ ?_)); done)); (focus exact fun _ => rfl); (focus rfl); rotate_left; (focus (first | omega | (simp; done) | (simp; omega))))) | (focus (apply ql0; (focus ((repeat (first | exact .h _ | refine .t _ _ ?_)); done)); (focus exact fun _ => rfl); (focus rfl); rotate_left; (focus (first | omega | (simp; done) | (simp; omega))))) | (apply swm d; (focus ((repeat (first | exact .h _ | apply Rp.t)); done)); (focus rfl); (focus rfl); (focus exact ones rfl); intro w d; simp only [SPL] at d) | (apply stm d; (focus ((repeat (first | exact .h _ | apply Rp.t)); done)); (focus rfl); (focus simp); (focus exact ones rfl); intro w d; simp only [SPL] at d) | (apply lpm d; (focus ((repeat (first | exact .h _ | refine .t _ _ ?_)); done)); (focus (simp only [SEM]; rfl)); (focus rfl)) | (focus (apply rw_fld d; (focus ((repeat (first | exact .h _ | refine .t _ _ ?_)); done)); (focus exact fun _ => rfl); (focus rfl); rotate_left; (focus (first | omega | (simp; done) | (simp; omega))))) | (focus (apply rw_el1 d; (focus ((repeat (first | exact .h _ | refine .t _ _ ?_)); done)); (focus exact fun _ => rfl); (focus rfl); rotate_left; (focus (first | omega | (simp; done) | (simp; omega))))) | (focus (apply rw_elN d; (focus ((repeat (first | exact .h _ | refine .t _ _ ?_)); done)); (focus exact fun _ => rfl); rotate_left; (focus (first | omega | (simp; done) | (simp; omega))))) | (focus (apply rw_fld0 d; (focus ((repeat (first | exact .h _ | refine .t _ _ ?_)); done)); (focus exact fun _ => rfl); (focus rfl); rotate_left; (focus (first | omega | (simp; done) | (simp; omega))))) | (focus (apply rw_el10 d; (focus ((repeat (first | exact .h _ | refine .t _ _ ?_)); done)); (focus exact fun _ => rfl); (focus rfl); rotate_left; (focus (first | omega | (simp; done) | (simp; omega))))) | (focus (apply rw_elN0 d; (focus ((repeat (first | exact .h _ | refine .t _ _ ?_)); done)); (focus exact fun _ => rfl); rotate_left; (focus (first | omega | (simp; done) | (simp; omega))))) | refine ch d ?_ | refine ch (D.tail d) ?_ | refine ch (D.tail (D.tail d)) ?_ | refine ch (D.tail (D.tail (D.tail d))) ?_ | refine qe _ (fun w d => max2_ok ⟨rfl, rfl⟩) ?_ | refine qe _ (fun w d => min2_ok ⟨rfl, rfl⟩) ?_ | refine max2_ok ?_ | refine min2_ok ?_ | refine bsl3 rfl rfl rfl d fun bn w d => ?_ | refine qe_op (fun _ _ => BinI_quo rfl) ?_ | refine qe_op (fun _ _ => BinI_rem rfl) ?_ | refine qe_op (fun _ _ => BinI_or) ?_ | refine qe_op (fun _ _ => BinI_and) ?_ | refine qe_op (fun _ _ => BinI_andNot) ?_ | refine qe_op (fun _ _ => BinI_shl) ?_ | refine qe_op (fun _ _ => BinI_shr) ?_)
  refine fn40 (fun _ _ => rfl) (VRead_ok (n := 4) (a := 62) hon.vw (D.sel [2] d) (fun e w he hno d => ?_) fun x N y yid t sv w hx hb hy h1 h2 h3 d => ?_)
  · exfalso
    rcases hno with h | h | h | ⟨x, hx, h⟩
    · rw [ob_live] at h; cases h
    · omega
    · omega
    · rw [ob_live] at hx
      obtain rfl := Option.some.inj hx
      exact h ⟨by omega, by omega, by show (62 : Int) ≤ 128; decide, by show (4 : Int) ≤ 128 - 62; decide⟩
  rw [ob_live] at hx
  obtain rfl := Option.some.inj hx
  obtain ⟨-, rfl, rfl⟩ := hb.flat rfl
  have e1 : sub (byt F' (ob 128 fb c pl').pl) (0 + 62 : Int).toNat (4 : Int).toNat = [97, 98, 99, 100] := by
    rw [show byt F' (ob 128 fb c pl').pl = wr (fun _ => 0) 62 [97, 98, 99, 100] from funext hon.bt]
    rfl
  rw [e1] at d
  repeat (first | refine drw d fun w d => ?_ | (simp +decide only [SEM]) | (apply ldm d; (focus ((repeat (first | exact .h _ | refine .t _ _ ?_)); done)); (focus rfl)) | (apply lam d; (focus ((repeat (first | exact .h _ | refine .t _ _ ?_)); done)); (focus rfl)) | (((repeat (refine bld_c rfl rfl (by simp) ?_; simp only [List.set_cons_zero, List.set_cons_succ])); refine bld_n ?_)) | (refine d_new _ d fun bn w d => ?_) | refine bsl1 (by first | rfl | (simp only [cells_agg, cells_int, cells_bool, cells_ptr, cells_sl, cells_map, cells_fn, List.drop_succ_cons, List.drop_zero, List.take_succ_cons, List.take_zero, Nat.zero_add, Nat.reduceAdd, Int.toNat_natCast, Int.toNat_zero]; rfl)) rfl d (by decide) (by decide) fun bn w d => ?_ | refine bsl2 rfl rfl d fun bn w d => ?_ | refine bsl0 d fun bn w d => ?_ | refine qt d ?_ | refine qe_nil ?_ | refine qe_fa ?_ | refine qe_len ?_ | (apply qlm; (focus ((repeat (first | exact .h _ | refine .t _ _ ?_)); done)); (focus rfl)) | (apply qam; (focus ((repeat (first | exact .h _ | refine .t _ _ ?_)); done)); (focus rfl)) | refine qe _ (fun w d => by ((repeat (refine bld_c rfl rfl (by simp) ?_; simp only [List.set_cons_zero, List.set_cons_succ])); refine bld_n ?_); exact ⟨rfl, rfl⟩) ?_ | refine qe_ext rfl ?_ | refine qe_op (fun _ _ => BinI_add) ?_ | refine qe_op (fun _ _ => BinI_sub) ?_ | refine qe_op (fun _ _ => BinI_mul) ?_ | refine qe_op (fun _ _ => BinI_eql) ?_ | refine qe_op (fun _ _ => BinI_neq) ?_ | refine qe_op (fun _ _ => BinI_lss) ?_ | refine qe_op (fun _ _ => BinI_leq) ?_ | refine qe_op (fun _ _ => BinI_gtr) ?_ | refine qe_op (fun _ _ => BinI_geq) ?_ | refine qe_op (fun _ _ => Un_not _) ?_ | refine qia (by first | omega | (simp; omega)) ?_ | refine qia0 (by first | omega | (simp; omega)) ?_ | (focus (apply qln; (focus ((repeat (first | exact .h _ | refine .t _ _ ?_)); done)); (focus exact fun _ => rfl); rotate_left; (focus (first | omega | (simp; done) | (simp; omega))))) | (focus (apply ql1; (focus ((repeat (first | exact .h _ | refine .t _ _ ?_)); done)); (focus exact fun _ => rfl); (focus rfl); rotate_left; (focus (first | omega | (simp; done) | (simp; omega))))) | (focus (apply ql0; (focus ((repeat (first | exact .h _ | refine .t _ _ ?_)); done)); (focus exact fun _ => rfl); (focus rfl); rotate_left; (focus (first | omega | (simp; done) | (simp; omega))))) | (apply swm d; (focus ((repeat (first | exact .h _ | apply Rp.t)); done)); (focus rfl); (focus rfl); (focus exact ones rfl); intro w d; simp only [SPL] at d) | (apply stm d; (focus ((repeat (first | exact .h _ | apply Rp.t)); done)); (focus rfl); (focus simp); (focus exact ones rfl); intro w d; simp only [SPL] at d) | (apply lpm d; (focus ((repeat (first | exact .h _ | refine .t _ _ ?_)); done)); (focus (simp only [SEM]; rfl)); (focus rfl)) | (focus (apply rw_fld d; (focus ((repeat (first | exact .h _ | refine .t _ _ ?_)); done)); (focus exact fun _ => rfl); (focus rfl); rotate_left; (focus (first | omega | (simp; done) | (simp; omega))))) | (focus (apply rw_el1 d; (focus ((repeat (first | exact .h _ | refine .t _ _ ?_)); done)); (focus exact fun _ => rfl); (focus rfl); rotate_left; (focus (first | omega | (simp; done) | (simp; omega))))) | (focus (apply rw_elN d; (focus ((repeat (first | exact .h _ | refine .t _ _ ?_)); done)); (focus exact fun _ => rfl); rotate_left; (focus (first | omega | (simp; done) | (simp; omega))))) | (focus (apply rw_fld0 d; (focus ((repeat (first | exact .h _ | refine .t _ _ ?_)); done)); (focus exact fun _ => rfl); (focus rfl); rotate_left; (focus (first | omega | (simp; done) | (simp; omega))))) | (focus (apply rw_el10 d; (focus ((repeat (first | exact .h _ | refine .t _ _ ?_)); done)); (focus exact fun _ => rfl); (focus rfl); rotate_left; (focus (first | omega | (simp; done) | (simp; omega))))) | (focus (apply rw_elN0 d; (focus ((repeat (first | exact .h _ | refine .t _ _ ?_)); done)); (focus exact fun _ => rfl); rotate_left; (focus (first | omega | (simp; done) | (simp; omega))))) | refine ch d ?_ | refine ch (D.tail d) ?_ | refine ch (D.tail (D.tail d)) ?_ | refine ch (D.tail (D.tail (D.tail d))) ?_ | refine qe _ (fun w d => max2_ok ⟨rfl, rfl⟩) ?_ | refine qe _ (fun w d => min2_ok ⟨rfl, rfl⟩) ?_ | refine max2_ok ?_ | refine min2_ok ?_ | refine bsl3 rfl rfl rfl d fun bn w d => ?_ | refine qe_op (fun _ _ => BinI_quo rfl) ?_ | refine qe_op (fun _ _ => BinI_rem rfl) ?_ | refine qe_op (fun _ _ => BinI_or) ?_ | refine qe_op (fun _ _ => BinI_and) ?_ | refine qe_op (fun _ _ => BinI_andNot) ?_ | refine qe_op (fun _ _ => BinI_shl) ?_ | refine qe_op (fun _ _ => BinI_shr) ?_)
  refine conv_ok (l := [97, 98, 99, 100]) (seesB_rw _ _ d) fun s hs => ?_
  refine streq ?_
  rw [hs, show ((⟨(([97, 98, 99, 100] : List Int).map fun n => UInt8.ofNat n.toNat).toArray⟩ : ByteArray).toList == (⟨#[97, 98, 99, 100]⟩ : ByteArray).toList) = true from by decide +kernel]
  exact k w d.tail.tail.tail.tail.tail
end
/-- Pieces side by side. -/
def Chn : Int → List Pc → Int → Prop
  | a, [], e => a = e
  | a, x :: r, e => x.a = a ∧ 0 < x.n ∧ Chn (a + x.n) r e
theorem chn_place {m : Int} (hm : 0 < m) : ∀ {S : List Pc} {a e : Int}, Chn a S e → Reg.placeG m S a = (none, e)
  | [], a, e, h => by cases h; rfl
  | x :: r, a, e, ⟨h1, h2, h3⟩ => by
    unfold Reg.placeG
    rw [if_neg (by omega), show x.a + x.n = a + x.n by omega]
    exact chn_place hm h3
theorem chn_app {x : Pc} : ∀ {S : List Pc} {a e : Int}, Chn a S e → x.a = e → 0 < x.n → Chn a (S ++ [x]) (e + x.n)
  | [], a, e, h, h1, h2 => by cases h; exact ⟨h1, h2, rfl⟩
  | y :: r, a, e, ⟨g1, g2, g3⟩, h1, h2 => ⟨g1, g2, chn_app g3 h1 h2⟩
theorem chn_in : ∀ {S : List Pc} {a e : Int}, Chn a S e → a ≤ e ∧ ∀ x ∈ S, a ≤ x.a ∧ 0 < x.n ∧ x.a + x.n ≤ e
  | [], a, e, h => by cases h; simp
  | y :: r, a, e, ⟨g1, g2, g3⟩ => by
    obtain ⟨i1, i2⟩ := chn_in g3
    refine ⟨by omega, fun x hx => ?_⟩
    rcases List.mem_cons.1 hx with rfl | hx
    · omega
    · have := i2 x hx; omega
theorem ins_end {S : List Pc} {x : Pc} (h : ∀ y ∈ S, y.a < x.a) : insP S x = S ++ [x] := by
  have e : Reg.pos S x.a = S.length := by
    unfold Reg.pos
    rw [List.findIdx_eq_length]
    intro y hy
    have := h y hy
    simp; omega
  unfold Reg.insP
  rw [e, List.take_length, List.drop_length]
theorem plc_chn {S : List Pc} {size n e : Int} (h : Chn 0 S e) (hn : 0 < n) (h64 : n % 64 = 0) : plc size n S = if n ≤ size - e then some e else none := by
  unfold plc
  rw [if_pos ⟨hn, h64⟩, chn_place hn h]
end Go.Proofs.Ytgkbbihaaichbaa
