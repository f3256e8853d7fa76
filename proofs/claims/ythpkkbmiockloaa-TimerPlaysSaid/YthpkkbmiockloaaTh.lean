/- Timers: the fixed answer; the law of one key. -/
import Derived.Test.YthpkkbmiockloaaTg
set_option maxRecDepth 100000
set_option maxHeartbeats 4000000
namespace Go.Proofs.Ythpkkbmiockloaa
open Go Go.Jac
theorem le_antisymm {a b : Te} (h1 : le a b) (h2 : le b a) : a = b := by
  cases a; cases b
  unfold le at *
  simp only [Te.mk.injEq] at *
  omega
theorem sorted_eq {P Q : List Te} (h : P.Perm Q) (hp : P.Pairwise le) (hq : Q.Pairwise le) : P = Q :=
  h.eq_of_pairwise (fun _ _ _ _ h1 h2 => le_antisymm h1 h2) hp hq
def nc (n : Int) : List Value := [.int .i64 n]
theorem nc_len (x : Int) : (nc x).length = 1 := rfl
section
variable {w0 w : World} {L : List HP} {K : Value → WP} {b n : Nat} {most now : Int} {H M : List Te} {g : G} {sv lv : Value}
theorem ints_of {n : Nat} (h : OldSl pg w0 3 1 lv n) : ∃ l : List Int, l.length = n ∧ (∀ y ∈ l, I64 y) ∧ OldL w0 1 nc lv l ∧ n ≤ maxLen := by
  refine h.list fun vs hv => ?_
  obtain ⟨x, rfl, h⟩ := Rd.int Try.underlying3 hv
  exact ⟨x, rfl, I64.of_wf h⟩
theorem awake_ok (d : D w0 L w) (k : ∀ w', D w0 L w' → K (.bool true) w') : Cl pg 9 #[] K w := by
  refine V.jacinthlaw14_awake_ok ?_
  unfold V.jacinthlaw14_awake
  refine fn10 (fun _ _ => rfl) (New_ok (by omega) d fun b w d => ?_)
  repeat (simp +decide only [SEM])
  refine fn30 (fun _ _ => rfl) (Set_ok d (fun h => by omega) (fun _ h => by omega) (fun _ _ _ h => by simp at h) fun _ _ _ w d => ?_)
  repeat (simp +decide only [SEM])
  refine fn30 (fun _ _ => rfl) (Set_ok d (fun h => by omega) (fun _ h => by omega) (fun _ _ _ h => by simp [rem] at h) fun _ _ _ w d => ?_)
  skip
  have e : ((⟨10, 2⟩ : Te) :: rem 2 (⟨10, 5⟩ :: rem 5 [])) = [⟨10, 2⟩, ⟨10, 5⟩] := rfl
  rw [e] at d
  refine fn20 (fun _ _ => rfl) (Advance_ok (by omega) d (fun h => by omega) fun _ _ P M' sv w hp hs hd hl d => ?_)
  have hM : M' = [] := by
    rcases M' with _ | ⟨x, r⟩
    · rfl
    · have h1 := hl x (by simp)
      have h2 : x ∈ [(⟨10, 2⟩ : Te), ⟨10, 5⟩] := hp.mem_iff.1 (by simp)
      simp at h2
      rcases h2 with rfl | rfl <;> simp at h1
  subst hM
  rw [List.append_nil] at hp
  have hP := sorted_eq hp hs (by simp [le])
  subst hP
  obtain ⟨q, c, rfl, -⟩ := Rw.shape d.1
  repeat (first | (simp +decide only [SEM]) | (focus (apply rw_el1 d; (focus ((repeat (first | exact .h _ | refine .t _ _ ?_)); done)); (focus exact fun _ => rfl); (focus rfl); rotate_left; (focus (first | omega | (simp; done) | (simp; omega))))))
  refine fn10 (fun _ _ => rfl) (Now_ok d.swap fun w d => ?_)
  repeat (simp +decide only [SEM])
  exact k _ d.tail.tail
/-- One deadline, if there is one. -/
def oneM (has : Bool) (want key : Int) : List Te := cond has [⟨want, key⟩] []
theorem rem_one {has : Bool} {want key : Int} : rem key (oneM has want key) = [] := by cases has <;> simp [oneM, rem]
theorem one_ok {key : Int} {l : List Int} (hl : l.length ≤ maxLen) (ho : OldL w0 1 nc lv l) (hm : Old w0 ∈ L) (d : D w0 L w) (k : ∀ w', D w0 L w' → K (.bool true) w') :
    Cl pg 5 #[.int .i64 key, lv] K w := by
  refine V.jacinthlaw14_TimerOne_ok ?_
  unfold V.jacinthlaw14_TimerOne
  have aw : ∀ (w : World), D w0 L w → Cl pg 9 #[] (fun v w => K v w) w := fun w d => awake_ok d k
  refine fn10 (fun _ _ => rfl) (New_ok (by omega) d fun b w d => ?_)
  repeat (simp +decide only [SEM])
  refine ho.len ?_
  repeat (simp +decide only [SEM])
  refine ⟨fun h => fn00 (fun _ _ => rfl) (aw w d.tail), fun h => ?_⟩
  refine ho.len ?_
  refine ⟨fun vs w' => ∃ (i : Nat) (has : Bool) (want : Int) (u : Value), vs = [.int .i64 want, .bool has, u, .int .i64 i] ∧ i ≤ l.length ∧ (has = false → want = 0) ∧ D w0 (T b 3 0 (oneM has want key) :: L) w', fun vs _ => match vs with | [_, _, _, .int _ i] => l.length - i.toNat | _ => 0, ⟨0, false, 0, _, rfl, by omega, fun _ => rfl, d⟩, ?_⟩
  rintro _ w ⟨i, has, want, u, rfl, hi, hh, d⟩ _
  simp only [UN]
  repeat (simp +decide only [SEM])
  refine ⟨fun hlt => ?_, fun hge => ?_⟩
  · have hlt' : i < l.length := by omega
    refine ho.ia (by omega) hlt fun a ha => ?_
    simp only [Int.toNat_natCast] at ha
    refine old_ld1 d (by simp [hm]) (by have := ha 0 _ rfl; rwa [Addr.add_zero] at this) ?_
    refine fn30 (fun _ _ => rfl) (Cl.mono (K := fun v w' => ∃ (due : Bool) (s : Int) (has' : Bool) (want' : Int), v = .tuple #[.bool due, .int .i64 s] ∧ (has' = false → want' = 0) ∧ D w0 (T b 3 0 (oneM has' want' key) :: L) w' ∧
      ((l[i] ≤ 0 ∧ due = true ∧ s = 0 ∧ has' = false) ∨ (1099511627776 < l[i] ∧ due = false ∧ s = -10 ∧ has' = has ∧ want' = want) ∨ (0 < l[i] ∧ l[i] ≤ 1099511627776 ∧ due = false ∧ s = 0 ∧ has' = true ∧ want' = l[i])))
      (Set_ok d (fun h w d => ?_) (fun h h2 w d => ?_) (fun h h2 h3 h4 w d => ?_) (fun h h2 h3 w d => ?_)) ?_)
    · rw [rem_one] at d
      exact ⟨true, 0, false, 0, rfl, fun _ => rfl, d, .inl ⟨h, rfl, rfl, rfl⟩⟩
    · exact ⟨false, -10, has, want, rfl, hh, d, .inr (.inl ⟨h2, rfl, rfl, rfl, rfl⟩)⟩
    · exfalso
      cases has <;> simp [oneM] at h4
    · rw [rem_one] at d
      exact ⟨false, 0, true, l[i], rfl, (fun h => by cases h), d, .inr (.inr ⟨h, h2, rfl, rfl, rfl, rfl⟩)⟩
    rintro _ w ⟨due, s, has', want', rfl, hh', d, hcase⟩
    repeat (simp +decide only [SEM])
    intro vJ hvJ
    have fin : ∀ u, vJ [u, .int .i64 want', .bool has'] w := by
      intro u
      refine hvJ _ _ ?_
      intro _
      simp only [UN]
      refine fn20 (fun _ _ => rfl) (Cl.mono (K := fun v w' => v = .tuple #[.int .i64 want', .bool has'] ∧ D w0 (T b 3 0 (oneM has' want' key) :: L) w') (Deadline_ok d (fun hn w d => ?_) (fun x hx hk w d => ?_)) ?_)
      · cases has' with
        | false => rw [hh' rfl]; rw [hh' rfl] at d; exact ⟨rfl, d⟩
        | true => exact absurd rfl (hn ⟨want', key⟩ (by simp [oneM]))
      · cases has' with
        | false => simp [oneM] at hx
        | true =>
          simp [oneM] at hx
          subst hx
          exact ⟨rfl, d⟩
      rintro _ w ⟨rfl, d⟩
      repeat (simp +decide only [SEM])
      have hq : (has' == has') = true := by simp
      rw [hq]
      repeat (simp +decide only [SEM])
      refine fn10 (fun _ _ => rfl) (Count_ok d fun w d => ?_)
      have hlen : (oneM has' want' key).length ≤ 1 := by cases has' <;> simp [oneM]
      repeat (simp +decide only [SEM])
      refine ⟨fun h => by omega, fun _ => ?_⟩
      rw [w64 (by omega) (by omega)]
      exact ⟨⟨i + 1, has', want', u, by simp, by omega, hh', d⟩, by show l.length - ((i : Int) + 1).toNat < l.length - (i : Int).toNat; omega⟩
    rcases hcase with ⟨h1, rfl, rfl, rfl⟩ | ⟨h1, rfl, rfl, rfl, rfl⟩ | ⟨h1, h2, rfl, rfl, rfl, rfl⟩
    · rw [hh' rfl] at fin
      repeat (simp +decide only [SEM])
      exact ⟨fun _ => fin _, fun h => absurd h1 h⟩
    · repeat (simp +decide only [SEM])
      exact ⟨fun h => by omega, fun _ => ⟨fun _ => fin _, fun h => by omega⟩⟩
    · repeat (simp +decide only [SEM])
      exact ⟨fun h => by omega, fun _ => ⟨fun h => by omega, fun _ => fin _⟩⟩
  · refine fn20 (fun _ _ => rfl) (Cl.mono (K := fun v w' => v = .int .i64 (cond has 0 (-25)) ∧ D w0 (T b 3 0 [] :: L) w') (Cancel_ok d (fun hn w d => ?_) (fun hx w d => ?_)) ?_)
    · cases has with
      | false => exact ⟨rfl, d⟩
      | true => exact absurd rfl (hn ⟨want, key⟩ (by simp [oneM]))
    · cases has with
      | false => simp [oneM] at hx
      | true =>
        rw [rem_one] at d
        exact ⟨rfl, d⟩
    rintro _ w ⟨rfl, d⟩
    repeat (simp +decide only [SEM])
    have hq : (decide (cond has (0 : Int) (-25) = 0) == has) = true := by cases has <;> rfl
    rw [hq]
    repeat (simp +decide only [SEM])
    refine fn20 (fun _ _ => rfl) (Cancel_ok d (fun hn w d => ?_) (fun hx w d => by simp at hx))
    repeat (simp +decide only [SEM])
    refine fn10 (fun _ _ => rfl) (Count_ok d fun w d => ?_)
    repeat (simp +decide only [SEM])
    exact fn00 (fun _ _ => rfl) (aw w d.tail)
theorem one_law {n : Nat} {key : Int} (h : OldSl pg w0 3 1 lv n) (hm : Old w0 ∈ L) (d : D w0 L w) (k : ∀ w', D w0 L w' → K (.bool true) w') :
    Cl pg 5 #[.int .i64 key, lv] K w := by
  obtain ⟨l, hl, _, ho, hn⟩ := ints_of h
  exact one_ok (by omega) ho hm d k
end
end Go.Proofs.Ythpkkbmiockloaa
