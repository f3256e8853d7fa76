/- Handles: the law of plays. -/
import Derived.Test.YtgcnebacjkpfmaaHy
import Derived.Test.YtgcnebacjkpfmaaHc
import Derived.Test.YtgcnebacjkpfmaaR
set_option maxRecDepth 100000
set_option maxHeartbeats 8000000
namespace Go.Proofs.Ytgcnebacjkpfmaa
open Go Go.Jac
theorem cnt_tkn (S : List Slot) : cnt S = (tkn S).length := by unfold cnt tkn; rw [List.countP_eq_length_filter]
structure Opg (w0 : World) (x : Opx) : Prop where
  v : I64 x.v
  want : I64 x.want
  dr : I64 x.dr
  all : ∀ y ∈ x.l, I64 y
  old : OldL w0 1 nc x.lv x.l
section
variable {w0 w : World} {L : List HP} {K : Value → WP} {b c : Nat} {cap : Int} {S : List Slot} {sv se lv : Value} {l : List Opx}
theorem ints_of {n : Nat} (h : OldSl pg w0 3 1 lv n) : ∃ l : List Int, l.length = n ∧ (∀ y ∈ l, I64 y) ∧ OldL w0 1 nc lv l ∧ n ≤ maxLen := by
  refine h.list fun vs hv => ?_
  obtain ⟨x, rfl, h⟩ := Rd.int Try.underlying3 hv
  exact ⟨x, rfl, I64.of_wf h⟩
theorem ops_of {n : Nat} (h : OldSl pg w0 51 10 lv n) : ∃ l : List Opx, l.length = n ∧ (∀ x ∈ l, Opg w0 x) ∧ OldL w0 10 oc lv l ∧ n ≤ maxLen := by
  refine h.list fun vs hv => ?_
  obtain ⟨x0, x1, x2, x3, x4, x5, x6, x7, x8, x9, rfl, h0, h1, h2, h3, h4, h5, h6, h7, h8, h9⟩ := rd51 hv
  obtain ⟨m, hm⟩ := osl_of (es := 1) Try.underlying43 (by kernel_rfl) h9
  obtain ⟨l, -, hI, ho, -⟩ := ints_of hm
  exact ⟨⟨x0, x1, x2, x3, x4, x5, x6, x7, x8, x9, l⟩, rfl, ⟨I64.of_wf h1, I64.of_wf h4, I64.of_wf h5, hI, ho⟩⟩
theorem plays_ok (hl : l.length ≤ maxLen) (hop : ∀ x ∈ l, Opg w0 x) (ho : OldL w0 10 oc lv l) (hm : Old w0 ∈ L) (d : D w0 L w) (k : ∀ w', D w0 L w' → K (.bool true) w') :
    Cl pg 8 #[.int .i64 cap, lv] K w := by
  refine V.jacinthlaw06_HandlesPlays_ok ?_
  unfold V.jacinthlaw06_HandlesPlays
  have aw : ∀ (w : World), D w0 L w → Cl pg 12 #[] (fun v w => K v w) w := fun w d => awake_ok d k
  by_cases hmr : 0 ≤ cap ∧ cap ≤ 65536
  · refine fn10 (fun _ _ => rfl) (New_ok hmr d fun b w d => ?_)
    repeat (simp +decide only [SEM])
    refine ⟨fun _ => ⟨fun h => by omega, fun _ => ?_⟩, fun h => by omega⟩
    refine ho.len ?_
    repeat (simp +decide only [SEM])
    refine ⟨fun h => fn00 (fun _ _ => rfl) (aw w d.tail), fun h => ?_⟩
    repeat (first | (simp +decide only [SEM]) | (((repeat (refine bld_c rfl rfl (by simp) ?_; simp only [List.set_cons_zero, List.set_cons_succ])); refine bld_n ?_)) | (refine d_new _ d fun bn w d => ?_))
    generalize bn = c at d ⊢
    have d1 : D w0 (Rw 3 1 (.slice none 0 0) 0 [] :: Rw 89 3 (.slice none 0 0) 0 [] :: cel c 61 [.slice none 0 0, .slice none 0 0, .int .i64 cap] :: Tb b cap [] :: L) w := ⟨Rw.nil _ _ (Rw.nil _ _ d.1), d.2⟩
    have d := (Rt.mk (S := []) (D.sel [2, 0, 1] d1)).swap
    clear d1
    refine ho.len ?_
    refine ⟨fun vs w' => ∃ (i : Nat) (S : List Slot) (u : Value), vs = [u, .int .i64 i] ∧ i ≤ l.length ∧ TOk cap S ∧ GInv S ∧ D w0 (Tb b cap S :: Rt c cap S :: L) w', fun vs _ => match vs with | [_, .int _ i] => l.length - i.toNat | _ => 0, ⟨0, [], _, rfl, by omega, ⟨by simp; omega, hmr.2⟩, fun p x hx => by simp at hx, d⟩, ?_⟩
    clear d
    rintro _ w ⟨i, S, u, rfl, hi, hS, hg, d⟩ _
    simp only [UN]
    repeat (simp +decide only [SEM])
    refine ⟨fun hlt => ?_, fun hge => fn00 (fun _ _ => rfl) (aw w d.tail.tail)⟩
    have hlt' : i < l.length := by omega
    refine ho.ia (by omega) hlt fun a ha => ?_
    simp only [Int.toNat_natCast] at ha
    refine old_ldN (oc l[i]) d (by simp [hm]) rfl (fun j x hx => ha j x hx) ?_
    have hx := hop l[i] (List.getElem_mem _)
    generalize l[i] = x at hx ⊢
    obtain ⟨kd, v, nth, n, want, dr, o, kk, r, iv, it⟩ := x
    obtain ⟨hvI, hwI, hdI, hlI, hold⟩ := hx
    simp only [oc] at hvI hwI hdI hlI hold ⊢
    obtain ⟨qi, ci, rfl⟩ := hold.shape
    repeat (first | (simp +decide only [SEM]) | (apply ldm d; (focus ((repeat (first | exact .h _ | refine .t _ _ ?_)); done)); (focus rfl)) | (refine d_new _ d fun bn w d => ?_) | (apply swm d; (focus ((repeat (first | exact .h _ | apply Rp.t)); done)); (focus rfl); (focus rfl); (focus exact ones rfl); intro w d; simp only [SPL] at d))
    generalize bn = bo at d ⊢
    refine ⟨fun h12 => fn00 (fun _ _ => rfl) (aw w d.tail.tail.tail), fun h12 => ?_⟩
    repeat (apply lam d; (focus ((repeat (first | exact .h _ | refine .t _ _ ?_)); done)); (focus rfl))
    refine fn30 (fun _ _ => rfl) (step_ok hvI hwI hdI (by omega) hlI hold hS hg (by show Old w0 ∈ _ :: L; simp [hm]) (D.sel [1, 2] d) fun S w hS hg d => ?_)
    repeat (simp +decide only [SEM])
    have hS1 := hS.1; have hS2 := hS.2
    have hS6 : S.length ≤ 65536 := by omega
    have hT6 : (tkn S).length ≤ 65536 := Nat.le_trans (List.length_filter_le _ _) hS6
    have hct := cnt_tkn S
    refine fn10 (fun _ _ => rfl) (RAll_ok hS6 (D.sel [1] d) fun v1 v2 w d => ?_)
    obtain ⟨p1, c1, rfl, -⟩ := Rw.shape d.1
    obtain ⟨p2, c2, rfl, -⟩ := Rw.shape d.tail.1
    repeat (simp +decide only [SEM])
    refine fn10 (fun _ _ => rfl) (Values_ok hS6 (D.sel [3] d) fun v3 w d => ?_)
    rw [flat_map1] at d
    obtain ⟨p3, c3, rfl, -⟩ := Rw.shape d.1
    refine fn20 (fun _ _ => rfl) (ints_ok (X := tkn S) hT6 (D.sel [0, 2] d) fun w d => ?_)
    repeat (simp +decide only [SEM])
    refine fn10 (fun _ _ => rfl) (Entries_ok hS6 (D.sel [2] d) fun v4 w d => ?_)
    obtain ⟨p4, c4, rfl, -⟩ := Rw.shape d.1
    refine fn20 (fun _ _ => rfl) (same_ok (X := tkn S) hT6 (D.sel [0, 4] d) fun w d => ?_)
    repeat (simp +decide only [SEM])
    have d : D w0 (Tb b cap S :: Rt c cap S :: L) w := (D.sel [0, 1, 3, 4, 6, 2, 5] d).tail.tail.tail.tail.tail
    refine fn10 (fun _ _ => rfl) (Count_ok d ?_)
    repeat (simp +decide only [SEM])
    refine ⟨fun _ => ?_, fun h => absurd hct h⟩
    refine fn10 (fun _ _ => rfl) (Room_ok hS d fun w d => ?_)
    have hrm : IntKind.i64.wrap (cap - ((tkn S).length : Int)) = cap - cnt S := by
      have := cnt_le S
      rw [hct, w64 (by omega) (by omega)]
    repeat (simp +decide only [SEM])
    rw [hrm]
    refine ⟨fun h => absurd rfl h, fun _ => ?_⟩
    rw [w64 (by omega) (by omega)]
    exact ⟨⟨i + 1, S, u, by simp, by omega, hS, hg, d⟩, by omega⟩
  · refine fn10 (fun _ _ => rfl) (New_no hmr ?_)
    repeat (simp +decide only [SEM])
    exact ⟨fun h1 => ⟨fun h2 => fn00 (fun _ _ => rfl) (aw w d), fun h2 => absurd ⟨by omega, by omega⟩ hmr⟩, fun h1 => fn00 (fun _ _ => rfl) (aw w d)⟩
theorem plays_law {n : Nat} (h : OldSl pg w0 51 10 lv n) (hm : Old w0 ∈ L) (d : D w0 L w) (k : ∀ w', D w0 L w' → K (.bool true) w') :
    Cl pg 8 #[.int .i64 cap, lv] K w := by
  obtain ⟨l, hl, hop, ho, hn⟩ := ops_of h
  exact plays_ok (by omega) hop ho hm d k
end
end Go.Proofs.Ytgcnebacjkpfmaa
