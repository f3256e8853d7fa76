/- Regions: the law of places. -/
import Derived.Test.YtplllehpaimpiaaGg
import Derived.Test.YtplllehpaimpiaaR
set_option maxRecDepth 100000
set_option maxHeartbeats 8000000
namespace Go.Proofs.Ytplllehpaimpiaa
open Go Go.Jac
def Pi (x : Pc) : Prop := I64 x.a ∧ I64 x.n ∧ I64 x.v ∧ I64 x.f ∧ I64 x.p
theorem pieces_of {w0 : World} {lv : Value} {n : Nat} (h : OldSl pg w0 27 5 lv n) : ∃ l : List Pc, l.length = n ∧ (∀ x ∈ l, Pi x) ∧ OldL w0 5 pc lv l ∧ n ≤ maxLen := by
  refine h.list fun vs hv => ?_
  obtain ⟨x0, x1, x2, x3, x4, rfl, h0, h1, h2, h3, h4⟩ := rd27 hv
  exact ⟨⟨x0, x1, x2, x3, x4⟩, rfl, I64.of_wf h0, I64.of_wf h1, I64.of_wf h2, I64.of_wf h3, I64.of_wf h4⟩
theorem pcO_len (o : Option Pc) : (pcO o).length = 5 := by cases o <;> rfl
theorem pcO_one (o : Option Pc) : ∀ u ∈ pcO o, u.oneCell' = true := by cases o <;> exact ones rfl
theorem ins_mem {S : List Pc} {x y : Pc} : y ∈ insP S x ↔ y = x ∨ y ∈ S := by rw [ins_perm.mem_iff, List.mem_cons]
section
variable {w0 w : World} {L : List HP} {K : Value → WP} {b n : Nat} {size most : Int} {sv lv v : Value} {x : Pc} {S : List Pc}
theorem places_ok {l : List Pc} {m : Int} (hm0 : I64 m) (hl : l.length ≤ maxLen) (hop : ∀ x ∈ l, Pi x) (ho : OldL w0 5 pc lv l) (hm : Old w0 ∈ L) (d : D w0 L w) (k : ∀ w', D w0 L w' → K (.bool true) w') :
    Cl pg 4 #[lv, .int .i64 m] K w := by
  refine V.jacinthlaw09_RegionPlaces_ok ?_
  unfold V.jacinthlaw09_RegionPlaces
  have aw : ∀ (w : World), D w0 L w → Cl pg 7 #[] (fun v w => K v w) w := fun w d => awake_ok d k
  refine fn20 (fun _ _ => rfl) (New_ok (by omega) (by omega) (by omega) d fun b w d => ?_)
  repeat (simp +decide only [SEM])
  refine ho.len ?_
  repeat (simp +decide only [SEM])
  refine ⟨fun h => fn00 (fun _ _ => rfl) (aw w d.tail), fun h => ?_⟩
  refine ho.len ?_
  refine ⟨fun vs w' => ∃ (i : Nat) (S : List Pc), vs = [.int .i64 i] ∧ i ≤ l.length ∧ S.length ≤ i ∧ (∀ y ∈ S, I64 y.v) ∧ D w0 (Rg b 2048 100 S :: L) w', fun vs _ => match vs with | [.int _ i] => l.length - i.toNat | _ => 0, ⟨0, [], rfl, by omega, by simp, by simp, d⟩, ?_⟩
  clear d
  rintro _ w ⟨i, S, rfl, hi, hSi, hv, d⟩ _
  simp only [UN]
  repeat (simp +decide only [SEM])
  refine ⟨fun hlt => ?_, fun hge => ?_⟩
  · have hlt' : i < l.length := by omega
    refine ho.ia (by omega) hlt fun a ha => ?_
    simp only [Int.toNat_natCast] at ha
    refine old_ldN (pc l[i]) d (by simp [hm]) rfl (fun j x hx => ha j x hx) ?_
    have hx := hop l[i] (List.getElem_mem _)
    generalize l[i] = x at hx ⊢
    refine d_new _ d fun bn w d => ?_
    refine stw0 d rfl rfl (ones rfl) fun w d => ?_
    simp only [cells_agg, List.toList_toArray] at d
    repeat (apply lam d; (focus ((repeat (first | exact .h _ | refine .t _ _ ?_)); done)); (focus rfl))
    refine fn20 (fun _ _ => rfl) (Put_ok (x := x) hx hv (D.sel [1, 0] d) (fun hp w d => ?_) (fun hp w d => ?_))
    · repeat (simp +decide only [SEM])
      rw [w64 (by omega) (by omega)]
      exact ⟨⟨i + 1, S, by simp, by omega, by omega, hv, d.tail2⟩, by omega⟩
    · repeat (simp +decide only [SEM])
      rw [w64 (by omega) (by omega)]
      refine ⟨⟨i + 1, insP S x, by simp, by omega, ?_, fun y hy => ?_, d.tail2⟩, by omega⟩
      · rw [ins_perm.length_eq, List.length_cons]; omega
      · rcases ins_mem.1 hy with rfl | hy
        · exact hx.2.2.1
        · exact hv y hy
  · have ok := Rg.facts d
    have hpl := place_spec ok (m := m)
    refine fn20 (fun _ _ => rfl) (Cl.mono (K := fun v w' => ∃ (at_ s : Int), v = .tuple #[.int .i64 at_, .int .i64 s] ∧ D w0 (Rg b 2048 100 S :: L) w' ∧ ((s ≠ 0 ∧ at_ = 0 ∧ (0 < m → m % 64 = 0 → ∀ c, ¬ Fits 2048 m S c)) ∨ (s = 0 ∧ 0 < m ∧ m % 64 = 0 ∧ Fits 2048 m S at_ ∧ at_ % 64 = 0 ∧ ∀ c, Fits 2048 m S c → at_ ≤ c))) (Place_ok hm0 d (fun h w d => ?_) (fun h1 h2 c hc w d => ?_) (fun h1 h2 h3 h4 w d => ?_) (fun h1 h2 h3 h4 w d => ?_)) ?_)
    · exact ⟨0, -10, rfl, d, .inl ⟨by decide, rfl, fun h1 h2 => absurd ⟨h1, h2⟩ h⟩⟩
    · have := ((hpl h1 S [] 0 rfl (by omega) (by omega) (by omega) (by simp) (fun s hs => hs.1)).1 c hc)
      exact ⟨c, 0, rfl, d, .inr ⟨rfl, h1, h2, this⟩⟩
    · have := ((hpl h1 S [] 0 rfl (by omega) (by omega) (by omega) (by simp) (fun s hs => hs.1)).2 h3)
      refine ⟨0, -4, rfl, d, .inl ⟨by decide, rfl, fun _ _ c hc => ?_⟩⟩
      have h5 := this.2.2.2.2 c hc
      have h6 := hc.2.1
      omega
    · have := ((hpl h1 S [] 0 rfl (by omega) (by omega) (by omega) (by simp) (fun s hs => hs.1)).2 h3)
      refine ⟨_, 0, rfl, d, .inr ⟨rfl, h1, h2, ⟨this.2.1, by omega, fun x hx => .inl (this.1 x hx)⟩, this.2.2.2.1, this.2.2.2.2⟩⟩
    rintro _ w ⟨at_, s, rfl, d, hc⟩
    repeat (simp +decide only [SEM])
    refine ⟨fun h1 => ?_, fun h1 => ?_⟩
    rotate_left
    · have hs : s ≠ 0 := by
        rcases hc with h2 | h2
        · exact h2.1
        · omega
      skip
      exact ⟨fun _ => fn00 (fun _ _ => rfl) (aw w d.tail), fun h => absurd h hs⟩
    skip
    have e64 : m.tmod 64 = m % 64 := Int.tmod_eq_emod_of_nonneg (by omega)
    rw [e64]
    refine ⟨fun h2 => ?_, fun h2 => ?_⟩
    · have hs : s ≠ 0 := by
        rcases hc with h3 | h3
        · exact h3.1
        · omega
      skip
      exact ⟨fun _ => fn00 (fun _ _ => rfl) (aw w d.tail), fun h => absurd h hs⟩
    have h2 : m % 64 = 0 := by omega
    obtain ⟨q, rfl⟩ : ∃ q, m = 64 * q := ⟨m / 64, by omega⟩
    have hq : 0 < q := by omega
    have fp := fun s => fits_pages ok (by decide) (s := s) hq
    rw [show (2048 : Int) / 64 = 32 from by decide] at fp
    have hI := hm0
    unfold I64 at hI
    refine ⟨fun vs w' => ∃ (k : Nat) (run least : Int) (u : Value), vs = [.int .i64 run, .int .i64 least, u, .int .i64 k] ∧ k ≤ 32 ∧ Run 32 q (fun j => fnd S (64 * j) = none) k run least ∧ D w0 (Rg b 2048 100 S :: L) w', fun vs _ => match vs with | [_, _, _, .int _ k] => 32 - k.toNat | _ => 0, ⟨0, 0, -1, _, rfl, by omega, run0 hq, d⟩, ?_⟩
    clear d
    rintro _ w ⟨k, run, least, u, rfl, hk, hr, d⟩ _
    simp only [UN]
    have hr0 := hr.r0
    have hls : -1 ≤ least ∧ least ≤ 2048 := by
      rcases hr.least with h3 | ⟨s, h3, h4, _⟩
      · omega
      · have := h4.1
        have := h4.2.1
        omega
    repeat (simp +decide only [SEM])
    refine ⟨fun hlt => ?_, fun hge => ?_⟩
    · have hk' : k < 32 := by omega
      rw [w64 (n := 64 * (k : Int)) (by omega) (by omega)]
      refine fn20 (fun _ _ => rfl) (Find_ok ⟨by omega, by omega⟩ (by omega) hv d fun w d => ?_)
      repeat (first | (simp +decide only [SEM]) | (refine d_new _ d fun bn w d => ?_))
      generalize bn = bx at d ⊢
      refine stw0 (v := .agg (pcO (fnd S (64 * (k : Int)))).toArray) d (by rw [cells_agg, List.size_toArray, pcO_len]) rfl (by rw [cells_agg]; exact pcO_one _) fun w d => ?_
      have d := d.tail
      have rf := fun hF => run_free hr hF hq (by omega)
      have e1 : IntKind.i64.wrap (run + 1) = run + 1 := w64 (by omega) (by omega)
      have e2 : IntKind.i64.wrap (64 * (run + 1)) = 64 * (run + 1) := w64 (by omega) (by omega)
      have e3 : IntKind.i64.wrap ((k : Int) + 1) = (k : Int) + 1 := w64 (by omega) (by omega)
      have e4 : IntKind.i64.wrap (64 * ((k : Int) + 1)) = 64 * ((k : Int) + 1) := w64 (by omega) (by omega)
      have nxt : ∀ run' least' w, Run 32 q (fun j => fnd S (64 * j) = none) ((k : Int) + 1) run' least' → D w0 (Rg b 2048 100 S :: L) w →
          (∃ (k' : Nat) (run least : Int) (u' : Value), [.int .i64 run', .int .i64 least', u, .int .i64 ((k : Int) + 1)] = [Value.int .i64 run, .int .i64 least, u', .int .i64 k'] ∧ k' ≤ 32 ∧ Run 32 q (fun j => fnd S (64 * j) = none) k' run least ∧ D w0 (Rg b 2048 100 S :: L) w) ∧ 32 - ((k : Int) + 1).toNat < 32 - k := fun run' least' w h d =>
        ⟨⟨k + 1, run', least', u, by simp, by omega, h, d⟩, by omega⟩
      cases hF : fnd S (64 * (k : Int)) with
      | some x =>
        have := run_busy hr (by rw [hF]; simp) hq (by omega)
        simp only [Option.isSome_some]
        repeat (simp +decide only [SEM])
        rw [e3]
        exact nxt _ _ w this d
      | none =>
        obtain ⟨r1, r2, r3⟩ := rf hF
        simp only [Option.isSome_none]
        repeat (simp +decide only [SEM])
        rw [e1, e2]
        refine ⟨fun h3 => ?_, fun h3 => ?_⟩
        · skip
          refine ⟨fun h4 => ?_, fun h4 => ?_⟩
          · skip
            rw [e3, e4, w64 (by omega) (by omega)]
            exact nxt _ _ w (r1 (by omega) h4) d
          · skip
            refine ⟨fun h5 => ⟨fun h6 => absurd h6 h4, fun _ => ?_⟩, fun h5 => ?_⟩
            · rw [e3]
              exact nxt _ _ w (r3 (.inr h4)) d
            · rw [e3]
              exact nxt _ _ w (r3 (.inr h4)) d
        · skip
          refine ⟨fun h5 => ⟨fun h6 => absurd h6 (r2 (by omega)), fun _ => ?_⟩, fun h5 => ?_⟩
          · rw [e3]
            exact nxt _ _ w (r3 (.inl (by omega))) d
          · rw [e3]
            exact nxt _ _ w (r3 (.inl (by omega))) d
    · have hk' : k = 32 := by omega
      subst hk'
      refine ⟨fun h3 => ?_, fun h3 => ?_⟩
      · have hno : ∀ s, ¬ Wp 32 q (fun j => fnd S (64 * j) = none) s := by
          intro s hs
          rcases hr.least with ⟨_, h4⟩ | ⟨s', h4, h5, _⟩
          · have := h4 s hs
            have := hs.2.1
            omega
          · have := h5.1
            omega
        have : s ≠ 0 ∧ at_ = 0 := by
          rcases hc with h4 | ⟨h4, _, _, h7, h8, _⟩
          · exact ⟨h4.1, h4.2.1⟩
          · obtain ⟨p, rfl⟩ : ∃ p, at_ = 64 * p := ⟨at_ / 64, by omega⟩
            exact absurd ((fp p).1 h7) (hno p)
        skip
        refine ⟨fun _ => ?_, fun h => absurd h this.1⟩
        rw [this.2]
        repeat (simp +decide only [SEM])
        exact fn00 (fun _ _ => rfl) (aw w d.tail)
      · obtain ⟨s', h4, h5, h6⟩ : ∃ s', least = 64 * s' ∧ Wp 32 q (fun j => fnd S (64 * j) = none) s' ∧ ∀ s'', Wp 32 q (fun j => fnd S (64 * j) = none) s'' → s' ≤ s'' := by
          rcases hr.least with ⟨h4, _⟩ | h4
          · omega
          · exact h4
        have hfit := (fp s').2 h5
        obtain ⟨hs0, hat⟩ : s = 0 ∧ at_ = least ∧ Fits 2048 (64 * q) S at_ ∧ at_ % 64 = 0 := by
          rcases hc with ⟨_, _, h7⟩ | ⟨h7, _, _, h8, h9, h10⟩
          · exact absurd hfit (h7 (by omega) h2 _)
          · obtain ⟨p, rfl⟩ : ∃ p, at_ = 64 * p := ⟨at_ / 64, by omega⟩
            have := h10 _ hfit
            have := h6 p ((fp p).1 h8)
            exact ⟨h7, by omega, h8, h9⟩
        obtain ⟨hat1, hat2, hat3⟩ := hat
        subst hs0
        subst hat1
        repeat (first | (simp +decide only [SEM]) | (((repeat (refine bld_c rfl rfl (by simp) ?_; simp only [List.set_cons_zero, List.set_cons_succ])); refine bld_n ?_)))
        refine fn20 (fun _ _ => rfl) (Put_ok (x := ⟨at_, 64 * q, 0, 0, 0⟩) ⟨⟨by show _ ≤ at_; omega, by show at_ ≤ _; omega⟩, hm0, ⟨by show _ ≤ (0 : Int); decide, by show (0 : Int) ≤ _; decide⟩, ⟨by show _ ≤ (0 : Int); decide, by show (0 : Int) ≤ _; decide⟩, ⟨by show _ ≤ (0 : Int); decide, by show (0 : Int) ≤ _; decide⟩⟩ hv d (fun hp w d => absurd (put0.2 ⟨hat3, h2, (by show (0 : Int) % 64 = 0; decide), hat2.1, (by show 0 < 64 * q; omega), hat2.2.1, (by show (0 : Int) ≤ 0 ∧ (0 : Int) ≤ 4294967296; decide), (by show (0 : Int) ≤ 0 ∧ (0 : Int) ≤ 3; decide), fun y hy => ?_, by omega⟩) hp) (fun hp w d => ?_))
        · cases hov : ovB y.a y.n at_ (64 * q) with
          | false => rfl
          | true =>
            unfold ovB at hov
            have := of_decide_eq_true hov
            rcases hat2.2.2 y hy with h7 | h7 <;> omega
        · repeat (simp +decide only [SEM])
          exact fn00 (fun _ _ => rfl) (aw w d.tail)
theorem places_law {n : Nat} {m : Int} (h : OldSl pg w0 27 5 lv n) (hm0 : I64 m) (hm : Old w0 ∈ L) (d : D w0 L w) (k : ∀ w', D w0 L w' → K (.bool true) w') :
    Cl pg 4 #[lv, .int .i64 m] K w := by
  obtain ⟨l, hl, hop, ho, hn⟩ := pieces_of h
  exact places_ok hm0 (by omega) hop ho hm d k
end
end Go.Proofs.Ytplllehpaimpiaa
