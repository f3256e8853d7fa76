/- Timers: the law of room. -/
import Derived.Test.YthpkkbmiockloaaTh
set_option maxRecDepth 100000
set_option maxHeartbeats 4000000
namespace Go.Proofs.Ythpkkbmiockloaa
open Go Go.Jac
/-- Which keys there are. -/
def hv (M : List Te) : Int → Option Value := fun k => if M.any (fun x => decide (x.key = k)) then some (.bool true) else none
theorem hv_some {M : List Te} {k : Int} : (hv M k).isSome = M.any fun x => decide (x.key = k) := by
  unfold hv; split <;> simp_all
theorem hv_set {M : List Te} {k dl : Int} : upd (hv M) k (.bool true) = hv (⟨dl, k⟩ :: rem k M) := by
  funext j
  unfold upd hv
  by_cases e : j = k
  · subst e; simp
  · rw [if_neg e]
    have : ((⟨dl, k⟩ : Te) :: rem k M).any (fun x => decide (x.key = j)) = M.any fun x => decide (x.key = j) := by
      rw [List.any_cons]
      have h1 : decide (k = j) = false := by simpa using fun h : k = j => e h.symm
      simp only [h1, Bool.false_or]
      unfold rem
      rw [List.any_filter]
      congr 1
      funext x
      by_cases hx : x.key = j
      · simp [hx, e]
      · simp [hx]
    rw [this]
theorem hv_del {M : List Te} {k : Int} : Jac.del (hv M) k = hv (rem k M) := by
  funext j
  unfold Jac.del hv
  by_cases e : j = k
  · subst e
    have : (rem j M).any (fun x => decide (x.key = j)) = false := by
      unfold rem; rw [List.any_filter]; simp
    rw [this]; simp
  · rw [if_neg e]
    have : (rem k M).any (fun x => decide (x.key = j)) = M.any fun x => decide (x.key = j) := by
      unfold rem
      rw [List.any_filter]
      congr 1
      funext x
      by_cases hx : x.key = j
      · simp [hx, e]
      · simp [hx]
    rw [this]
theorem rem_len {k : Int} : ∀ {M : List Te}, (M.map (·.key)).Nodup → (rem k M).length = if M.any (fun x => decide (x.key = k)) then M.length - 1 else M.length
  | [], _ => rfl
  | x :: r, h => by
    rw [List.map_cons, List.nodup_cons] at h
    have ih := rem_len (k := k) h.2
    unfold rem at ih ⊢
    by_cases e : x.key = k
    · have hno : r.any (fun y => decide (y.key = k)) = false := by
        rw [List.any_eq_false]
        intro y hy
        have : y.key ≠ k := fun h2 => h.1 (List.mem_map.2 ⟨y, hy, by rw [h2, e]⟩)
        simpa using this
      rw [hno] at ih
      simp [List.filter_cons, e]
      simpa using ih
    · rw [List.filter_cons, if_pos (by simpa using e), List.length_cons, ih, List.any_cons]
      have h1 : decide (x.key = k) = false := by simpa using e
      rw [h1, Bool.false_or]
      split
      · rename_i ha
        have : 0 < r.length := by
          rcases r with _ | ⟨y, r⟩
          · simp at ha
          · simp
        simp; omega
      · simp
section
variable {w0 w : World} {L : List HP} {K : Value → WP} {b bh n : Nat} {most now : Int} {H M : List Te} {g : G} {sv lv : Value}
theorem room_ok {l : List Int} (hmI : I64 most) (hl : l.length ≤ maxLen) (ho : OldL w0 1 nc lv l) (hm : Old w0 ∈ L) (d : D w0 L w) (k : ∀ w', D w0 L w' → K (.bool true) w') :
    Cl pg 4 #[.int .i64 most, lv] K w := by
  refine V.jacinthlaw14_TimerRoom_ok ?_
  unfold V.jacinthlaw14_TimerRoom
  have aw : ∀ (w : World), D w0 L w → Cl pg 9 #[] (fun v w => K v w) w := fun w d => awake_ok d k
  by_cases hmr : 0 ≤ most ∧ most ≤ 65536
  · refine fn10 (fun _ _ => rfl) (New_ok hmr d fun b w d => ?_)
    repeat (simp +decide only [SEM])
    refine ho.len ?_
    repeat (simp +decide only [SEM])
    refine ⟨fun h => fn00 (fun _ _ => rfl) (aw w d.tail), fun h => ?_⟩
    ((focus (apply mmk_ok d; intro bn w d)))
    have hv0 : D w0 (Mp bn (hv []) 0 :: T b most 0 [] :: L) w := d
    refine ho.len ?_
    refine ⟨fun vs w' => ∃ (i : Nat) (M : List Te) (u : Value), vs = [u, .int .i64 i] ∧ i ≤ l.length ∧ D w0 (Mp bn (hv M) M.length :: T b most 0 M :: L) w', fun vs _ => match vs with | [_, .int _ i] => l.length - i.toNat | _ => 0, ⟨0, [], _, rfl, by omega, hv0⟩, ?_⟩
    rintro _ w ⟨i, M, u, rfl, hi, d⟩ _
    simp only [UN]
    repeat (simp +decide only [SEM])
    refine ⟨fun hlt => ?_, fun hge => fn00 (fun _ _ => rfl) (aw w d.tail.tail)⟩
    have hlt' : i < l.length := by omega
    refine ho.ia (by omega) hlt fun a ha => ?_
    simp only [Int.toNat_natCast] at ha
    refine old_ld1 d (by simp [hm]) (by have := ha 0 _ rfl; rwa [Addr.add_zero] at this) ?_
    repeat (simp +decide only [SEM])
    rw [w64 (by omega) (by omega)]
    have hfac := T.facts d.swap
    -- the first call
    refine fn30 (fun _ _ => rfl) (Cl.mono (K := fun v w' => ∃ (s : Int) (M' : List Te), v = .tuple #[.bool false, .int .i64 s] ∧ D w0 (Mp bn (hv M) M.length :: T b most 0 M' :: L) w' ∧
      ((s = 0 ∧ (M.any (fun x => decide (x.key = l[i])) = true ∨ (M.length : Int) < most) ∧ M' = ⟨i + 1, l[i]⟩ :: rem l[i] M) ∨ (s = -4 ∧ M.any (fun x => decide (x.key = l[i])) = false ∧ ¬ (M.length : Int) < most ∧ M' = M)))
      (Set_ok d.swap (fun h w d => by omega) (fun h h2 w d => by omega) (fun h h2 h3 h4 w d => ?_) (fun h h2 h3 w d => ?_)) ?_)
    · refine ⟨-4, M, rfl, d.swap, .inr ⟨rfl, ?_, by omega, rfl⟩⟩
      rw [List.any_eq_false]
      intro x hx; simpa using h3 x hx
    · refine ⟨0, _, rfl, d.swap, .inl ⟨rfl, ?_, rfl⟩⟩
      rcases h3 with ⟨x, hx, he⟩ | h3
      · exact .inl (List.any_eq_true.2 ⟨x, hx, by simpa using he⟩)
      · exact .inr h3
    rintro _ w ⟨s, M', rfl, d, hcase⟩
    repeat (simp +decide only [SEM])
    ((focus (apply lkm1_ok Try.underlying33 Try.underlying3 (z := (.bool false)) (by kernel_rfl) d; (focus ((repeat (first | exact .h _ | refine .t _ _ ?_)); done)))))
    have hgd : (hv M l[i]).getD (.bool false) = .bool (M.any fun x => decide (x.key = l[i])) := by
      unfold hv
      cases M.any (fun x => decide (x.key = l[i])) <;> rfl
    rw [hgd]
    rcases hcase with ⟨rfl, hor, rfl⟩ | ⟨rfl, hany, hlt2, hMM⟩
    · have hnd : (((⟨i + 1, l[i]⟩ : Te) :: rem l[i] M).map (·.key)).Nodup := (T.facts d.swap).1
      have hup : ∀ w, D w0 (Mp bn (upd (hv M) l[i] (.bool true)) (if (hv M l[i]).isSome then M.length else M.length + 1) :: T b most 0 (⟨i + 1, l[i]⟩ :: rem l[i] M) :: L) w → D w0 (Mp bn (hv (⟨i + 1, l[i]⟩ :: rem l[i] M)) ((⟨i + 1, l[i]⟩ : Te) :: rem l[i] M).length :: T b most 0 (⟨i + 1, l[i]⟩ :: rem l[i] M) :: L) w := by
        intro w d
        rw [hv_set (dl := i + 1), hv_some] at d
        have : (if (M.any fun x => decide (x.key = l[i])) = true then M.length else M.length + 1) = ((⟨i + 1, l[i]⟩ : Te) :: rem l[i] M).length := by
          rw [List.length_cons, rem_len hfac.1]
          split
          · rename_i ha
            have : 0 < M.length := by
              rcases M with _ | ⟨y, r⟩
              · simp at ha
              · simp
            omega
          · rfl
        rw [this] at d
        exact d
      cases hany : M.any (fun x => decide (x.key = l[i])) with
      | true =>
        rw [hany] at hor
        repeat (simp +decide only [SEM])
        intro vK hvK
        repeat (simp +decide only [SEM])
        ((focus (apply mupm_ok Try.underlying33 Try.underlying3 d; (focus ((repeat (first | exact .h _ | apply Rp.t)); done)); intro w d)))
        have d := hup _ d
        refine hvK _ _ ?_
        intro _
        repeat (simp +decide only [SEM])
        rw [w64 (n := (1099511627776 : Int) + (i : Int)) (by omega) (by omega)]
        refine fn30 (fun _ _ => rfl) (Set_ok d.swap (fun _ w d => ?_) (fun h => by omega) (fun h => by omega) (fun h => by omega))
        repeat (simp +decide only [SEM])
        ((focus (apply mdelm_ok Try.underlying33 Try.underlying3 d; (focus ((repeat (first | exact .h _ | apply Rp.t)); done)); intro w d)))
        rw [hv_del, hv_some, w64 (n := (1099511627776 : Int) + (i : Int)) (by omega) (by omega)] at d
        have hln : (if (((⟨i + 1, l[i]⟩ : Te) :: rem l[i] M).any fun x => decide (x.key = 1099511627776 + (i : Int))) = true then ((⟨i + 1, l[i]⟩ : Te) :: rem l[i] M).length - 1 else ((⟨i + 1, l[i]⟩ : Te) :: rem l[i] M).length) = (rem (1099511627776 + (i : Int)) (⟨i + 1, l[i]⟩ :: rem l[i] M)).length := (rem_len hnd).symm
        rw [hln] at d
        skip
        refine fn10 (fun _ _ => rfl) (Count_ok (D.sel [0] d) fun w d => ?_)
        skip
        ((focus (apply mlenm_ok Try.underlying33 d; (focus ((repeat (first | exact .h _ | refine .t _ _ ?_)); done)))))
        repeat (simp +decide only [SEM])
        rw [w64 (by omega) (by omega)]
        exact ⟨⟨i + 1, _, u, by simp, by omega, d.swap⟩, by show l.length - ((i : Int) + 1).toNat < l.length - (i : Int).toNat; omega⟩
      | false =>
        rw [hany] at hor
        have hlt3 : (M.length : Int) < most := by simpa using hor
        repeat (simp +decide only [SEM])
        ((focus (apply mlenm_ok Try.underlying33 d; (focus ((repeat (first | exact .h _ | refine .t _ _ ?_)); done)))))
        repeat (simp +decide only [SEM])
        have hdt : decide ((M.length : Int) < most) = true := by simpa using hlt3
        simp only [hdt]
        repeat (simp +decide only [SEM])
        intro vK hvK
        repeat (simp +decide only [SEM])
        ((focus (apply mupm_ok Try.underlying33 Try.underlying3 d; (focus ((repeat (first | exact .h _ | apply Rp.t)); done)); intro w d)))
        have d := hup _ d
        refine hvK _ _ ?_
        intro _
        repeat (simp +decide only [SEM])
        rw [w64 (n := (1099511627776 : Int) + (i : Int)) (by omega) (by omega)]
        refine fn30 (fun _ _ => rfl) (Set_ok d.swap (fun _ w d => ?_) (fun h => by omega) (fun h => by omega) (fun h => by omega))
        repeat (simp +decide only [SEM])
        ((focus (apply mdelm_ok Try.underlying33 Try.underlying3 d; (focus ((repeat (first | exact .h _ | apply Rp.t)); done)); intro w d)))
        rw [hv_del, hv_some, w64 (n := (1099511627776 : Int) + (i : Int)) (by omega) (by omega)] at d
        have hln : (if (((⟨i + 1, l[i]⟩ : Te) :: rem l[i] M).any fun x => decide (x.key = 1099511627776 + (i : Int))) = true then ((⟨i + 1, l[i]⟩ : Te) :: rem l[i] M).length - 1 else ((⟨i + 1, l[i]⟩ : Te) :: rem l[i] M).length) = (rem (1099511627776 + (i : Int)) (⟨i + 1, l[i]⟩ :: rem l[i] M)).length := (rem_len hnd).symm
        rw [hln] at d
        skip
        refine fn10 (fun _ _ => rfl) (Count_ok (D.sel [0] d) fun w d => ?_)
        skip
        ((focus (apply mlenm_ok Try.underlying33 d; (focus ((repeat (first | exact .h _ | refine .t _ _ ?_)); done)))))
        repeat (simp +decide only [SEM])
        rw [w64 (by omega) (by omega)]
        exact ⟨⟨i + 1, _, u, by simp, by omega, d.swap⟩, by show l.length - ((i : Int) + 1).toNat < l.length - (i : Int).toNat; omega⟩
    · have hnd : (M.map (·.key)).Nodup := hfac.1
      rw [hMM] at d
      rw [hany]
      repeat (simp +decide only [SEM])
      ((focus (apply mlenm_ok Try.underlying33 d; (focus ((repeat (first | exact .h _ | refine .t _ _ ?_)); done)))))
      repeat (simp +decide only [SEM])
      have hdt : decide ((M.length : Int) < most) = false := by simpa using hlt2
      simp only [hdt]
      repeat (simp +decide only [SEM])
      intro vK hvK
      repeat (simp +decide only [SEM])
      refine hvK _ _ ?_
      intro _
      repeat (simp +decide only [SEM])
      rw [w64 (n := (1099511627776 : Int) + (i : Int)) (by omega) (by omega)]
      refine fn30 (fun _ _ => rfl) (Set_ok d.swap (fun _ w d => ?_) (fun h => by omega) (fun h => by omega) (fun h => by omega))
      repeat (simp +decide only [SEM])
      ((focus (apply mdelm_ok Try.underlying33 Try.underlying3 d; (focus ((repeat (first | exact .h _ | apply Rp.t)); done)); intro w d)))
      rw [hv_del, hv_some, w64 (n := (1099511627776 : Int) + (i : Int)) (by omega) (by omega)] at d
      have hln : (if (M.any fun x => decide (x.key = 1099511627776 + (i : Int))) = true then M.length - 1 else M.length) = (rem (1099511627776 + (i : Int)) M).length := (rem_len hnd).symm
      rw [hln] at d
      skip
      refine fn10 (fun _ _ => rfl) (Count_ok (D.sel [0] d) fun w d => ?_)
      skip
      ((focus (apply mlenm_ok Try.underlying33 d; (focus ((repeat (first | exact .h _ | refine .t _ _ ?_)); done)))))
      repeat (simp +decide only [SEM])
      rw [w64 (by omega) (by omega)]
      exact ⟨⟨i + 1, _, u, by simp, by omega, d.swap⟩, by show l.length - ((i : Int) + 1).toNat < l.length - (i : Int).toNat; omega⟩
  · refine fn10 (fun _ _ => rfl) (New_no hmr ?_)
    repeat (simp +decide only [SEM])
    exact ⟨fun h1 => ⟨fun h2 => fn00 (fun _ _ => rfl) (aw w d), fun h2 => absurd ⟨by omega, by omega⟩ hmr⟩, fun h1 => fn00 (fun _ _ => rfl) (aw w d)⟩
theorem room_law {n : Nat} (h : OldSl pg w0 3 1 lv n) (hmI : I64 most) (hm : Old w0 ∈ L) (d : D w0 L w) (k : ∀ w', D w0 L w' → K (.bool true) w') :
    Cl pg 4 #[.int .i64 most, lv] K w := by
  obtain ⟨l, hl, _, ho, hn⟩ := ints_of h
  exact room_ok hmI (by omega) ho hm d k
end
end Go.Proofs.Ythpkkbmiockloaa
