/- Several texts of this session's own, joined: Ee. -/
import Derived.Test.YtgkbbihaaichbaaYg
set_option maxRecDepth 100000
set_option maxHeartbeats 1600000
namespace Go.Proofs.Ytgkbbihaaichbaa
open Go Go.Jac
open Reg (Pc pc pc_len inP sumN insP PutOk Rok)
section
variable {w0 w : World} {L : List HP} {K : Value → WP} {lv : Value}
theorem ints10_of {n : Nat} (h : OldSl pg w0 3 1 lv n) : ∃ l : List Int, l.length = n ∧ (∀ x ∈ l, I64 x) ∧ OldL w0 1 nc lv l ∧ n ≤ maxLen := by
  refine h.list fun vs hv => ?_
  obtain ⟨x, rfl, h⟩ := Rd.int Try.underlying3 hv
  exact ⟨x, rfl, I64.of_wf h⟩
theorem splaces_ok {l : List Int} (hll : l.length ≤ maxLen) (hI : ∀ x ∈ l, I64 x) (ho : OldL w0 1 nc lv l) (d : D w0 [Old w0] w) (k : ∀ w', D w0 [Old w0] w' → K (.bool true) w') :
    Cl pg 3 #[lv] K w := by
  refine V.jacinthlaw10_SpacePlaces_ok ?_
  unfold V.jacinthlaw10_SpacePlaces
  have aw : ∀ {L' : List HP} {w : World} {K' : Value → WP}, D w0 L' w → (∀ w', D w0 L' w' → K' (.bool true) w') → FnV pg (.func (.func 8) #[] #[]) #[] K' w := fun d k => fn00 (fun _ _ => rfl) (awake10_ok d k)
  refine fn20 (fun _ _ => rfl) (VNew_ok (cap := 4) (n := 3) (by omega) (by omega) d fun b w d => ?_)
  have hd : FnV pg (.func (.func 8) #[] #[]) #[] K w := aw d fun w d => k w d.tail
  repeat (simp +decide only [SEM])
  refine ho.len ?_
  repeat (simp +decide only [SEM])
  refine ⟨fun _ => hd, fun hl40 => ?_⟩
  clear hd
  refine fn20 (fun _ _ => rfl) (first_ok (by omega) (by omega) (by omega) (sz := 1024) rfl d fun fb c w d => ?_)
  have on0 : On 4 1024 fb c [] [] (fun _ => 0) 0 := On.new (by omega) (by omega)
  repeat (simp +decide only [SEM])
  refine fn30 (fun _ _ => rfl) (SNew_ok (by omega) rfl (by omega) d fun bs br w d => ?_)
  have d : D w0 [Sp bs b br 1024 50, Vs b 1 3 4 [] [ob 1024 fb c []], Reg.Rg br 1024 50 [], Old w0] w := D.sel [0, 2] d
  repeat (simp +decide only [SEM])
  refine ho.len ?_
  refine ⟨fun vs w' => ∃ (i : Nat) (e : Int) (S : List Pc) (u : Value), vs = [u, .int .i64 e, .int .i64 i] ∧ i ≤ l.length ∧ S.length ≤ i ∧ Chn 0 S e ∧ 0 ≤ e ∧ e ≤ 1024 ∧ e % 64 = 0 ∧ (∀ p ∈ S, p.v = 1) ∧ D w0 [Sp bs b br 1024 50, Vs b 1 3 4 [] [ob 1024 fb c []], Reg.Rg br 1024 50 S, Old w0] w',
    fun vs _ => match vs with | [_, _, .int _ i] => l.length - i.toNat | _ => 0, ⟨0, 0, [], _, rfl, by omega, by simp, rfl, by omega, by omega, by omega, by simp, d⟩, ?_⟩
  clear d
  rintro _ w ⟨i, e, S, u, rfl, hi, hSl, hch, he0, he1, he64, hv1, d⟩ _
  simp only [UN]
  repeat (simp +decide only [SEM])
  refine ⟨fun hlt => ?_, fun hge => ?_⟩
  · have hlt' : i < l.length := by omega
    refine ho.ia (by omega) hlt fun p hp => ?_
    simp only [Int.toNat_natCast] at hp
    refine old_ld1 d (by simp) (by have := hp 0 _ rfl; rwa [Addr.add_zero] at this) ?_
    have hnI := hI l[i] (List.getElem_mem _)
    generalize l[i] = n at hnI ⊢
    obtain ⟨-, hin⟩ := chn_in hch
    have hw1 : IntKind.i64.wrap ((i : Int) + 1) = i + 1 := w64 (by omega) (by omega)
    have next : ∀ (u : Value) (e' : Int) (S' : List Pc) (w : World), S'.length ≤ i + 1 → Chn 0 S' e' → 0 ≤ e' → e' ≤ 1024 → e' % 64 = 0 → (∀ p ∈ S', p.v = 1) → D w0 [Sp bs b br 1024 50, Vs b 1 3 4 [] [ob 1024 fb c []], Reg.Rg br 1024 50 S', Old w0] w →
      (∃ (i' : Nat) (e : Int) (S : List Pc) (u' : Value), [u, .int .i64 e', .int .i64 ((i : Int) + 1)] = [u', .int .i64 e, .int .i64 i'] ∧ i' ≤ l.length ∧ S.length ≤ i' ∧ Chn 0 S e ∧ 0 ≤ e ∧ e ≤ 1024 ∧ e % 64 = 0 ∧ (∀ p ∈ S, p.v = 1) ∧ D w0 [Sp bs b br 1024 50, Vs b 1 3 4 [] [ob 1024 fb c []], Reg.Rg br 1024 50 S, Old w0] w) ∧ l.length - ((i : Int) + 1).toNat < l.length - (i : Int).toNat :=
      fun u e' S' w h1 h2 h3 h4 h5 h6 d => ⟨⟨i + 1, e', S', u, by simp, by omega, h1, h2, h3, h4, h5, h6, d⟩, by omega⟩
    have htm : 1 ≤ n → n.tmod 64 = n % 64 := fun h => Int.tmod_eq_emod_of_nonneg (by omega)
    have hw2 : IntKind.i64.wrap (1024 - e) = 1024 - e := w64 (by omega) (by omega)
    refine fn60 (fun _ _ => rfl) (Map_ok (at_ := -1) (id := 1) (fr := 0) (prot := 1) ⟨⟨by omega, by omega⟩, hnI, ⟨by omega, by omega⟩, ⟨by omega, by omega⟩, ⟨by omega, by omega⟩⟩ on0.vw (fun y hy => by rw [hv1 y hy]; exact ⟨by omega, by omega⟩) d (fun e2 w he hh d => ?_) fun x a w hx hn0 _ hxn _ ha hp d => ?_)
    · have hbad : ¬ (1 ≤ n ∧ n % 64 = 0 ∧ n ≤ 1024 - e) := fun ⟨g1, g2, g3⟩ => by
        rcases hh with hh | hh | hh | ⟨x, hx, hh⟩ | ⟨-, hh⟩ | ⟨a, -, ha, hh⟩
        · rw [ob_live] at hh; cases hh
        · omega
        · omega
        · rw [ob_live] at hx
          obtain rfl := Option.some.inj hx
          have hh : (1024 : Int) < 0 + n := hh
          omega
        · rw [plc_chn hch (by omega) g2, if_pos g3] at hh; cases hh
        · have ha := ha rfl
          rw [plc_chn hch (by omega) g2, if_pos g3] at ha
          obtain rfl := Option.some.inj ha
          refine hh ⟨he64, g2, by simp, he0, by show 0 < n; omega, by show e + n ≤ 1024; omega, by simp, by simp, fun y hy => ?_, by show (S.length : Int) < 50; omega⟩
          have := hin y hy
          unfold Reg.ovB
          simp only [decide_eq_false_iff_not]
          omega
      repeat (simp +decide only [SEM])
      rw [hw1, hw2]
      have fin := next u e S w (by omega) hch he0 he1 he64 hv1 d
      exact ⟨fun g1 => ⟨fun g2 => ⟨fun _ => ⟨fun h => absurd h he, fun _ => fin⟩, fun g3 => absurd ⟨by omega, by rw [← htm (by omega)]; exact g2, by omega⟩ hbad⟩, fun g2 => ⟨fun h => absurd h he, fun _ => fin⟩⟩, fun g1 => ⟨fun h => absurd h he, fun _ => fin⟩⟩
    · have ha := ha rfl
      have hn1 := hp.n0
      have hn64 := hp.nm
      have hen := hp.en
      have hn1 : 0 < n := hn1
      have hn64 : n % 64 = 0 := hn64
      have hen : a + n ≤ 1024 := hen
      rw [plc_chn hch hn1 hn64] at ha
      have hfit : n ≤ 1024 - e ∧ e = a := by
        split at ha
        · exact ⟨by assumption, Option.some.inj ha⟩
        · cases ha
      obtain ⟨hfit, rfl⟩ := hfit
      have hins : insP S ⟨e, n, 1, 0, 1⟩ = S ++ [⟨e, n, 1, 0, 1⟩] := ins_end fun y hy => by have := hin y hy; show y.a < e; omega
      rw [hins] at d
      have hw3 : IntKind.i64.wrap (e + n) = e + n := w64 (by omega) (by omega)
      have fin := next u (e + n) (S ++ [⟨e, n, 1, 0, 1⟩]) w (by simp; omega) (chn_app (x := ⟨e, n, 1, 0, 1⟩) hch rfl hn1) (by omega) (by omega) (by omega) (fun p hp => by
        rcases List.mem_append.1 hp with hp | hp
        · exact hv1 p hp
        · rw [List.mem_singleton.1 hp]) d
      repeat (simp +decide only [SEM])
      rw [hw1, hw2, hw3]
      have e1 := htm (by omega)
      exact ⟨fun _ => ⟨fun _ => ⟨fun h => by omega, fun _ => fin⟩, fun h => by omega⟩, fun h => by omega⟩
  · have d : D w0 [Sp bs b br 1024 50, Reg.Rg br 1024 50 S, Vs b 1 3 4 [] [ob 1024 fb c []], Old w0] w := D.sel [0, 2] d
    refine fn20 (fun _ _ => rfl) (Uses_ok d fun w d => ?_)
    refine fn10 (fun _ _ => rfl) (Pieces_ok d fun lv2 w d => ?_)
    refine len_rw (D.sel [0] d) ?_
    have e5 : (S.filter fun p => decide (p.v = 1)) = S := List.filter_eq_self.2 fun p hp => by simp [hv1 p hp]
    rw [e5]
    repeat (simp +decide only [SEM])
    exact aw d fun w d => k w d.tail2.tail.tail.tail
theorem splaces_law {n : Nat} (h : OldSl pg w0 3 1 lv n) (d : D w0 [Old w0] w) (k : ∀ w', D w0 [Old w0] w' → K (.bool true) w') : Cl pg 3 #[lv] K w := by
  obtain ⟨l, hl, hI, ho, hn⟩ := ints10_of h
  exact splaces_ok (by omega) hI ho d k
end
end Go.Proofs.Ytgkbbihaaichbaa
