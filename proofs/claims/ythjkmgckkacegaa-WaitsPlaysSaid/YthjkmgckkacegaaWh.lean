/- Waits: the law of orders, in plain words. -/
import Derived.Test.YthjkmgckkacegaaWf
import Derived.Test.YthjkmgckkacegaaWg
import Derived.Test.YthjkmgckkacegaaSv
set_option maxRecDepth 100000
set_option maxHeartbeats 4000000
namespace Go.Proofs.Ythjkmgckkacegaa
open Go Go.Jac
theorem drS_filter {th : Int} : ∀ {S : List Wt}, (S.map (·.th)).Nodup → drS th S = S.filter fun x => decide (x.th ≠ th)
  | [], _ => rfl
  | x :: r, h => by
    rw [List.map_cons, List.nodup_cons] at h
    unfold drS
    by_cases e : x.th = th
    · rw [List.eraseP_cons_of_pos (by simpa using e), List.filter_cons, if_neg (by simpa using e)]
      refine (List.filter_eq_self.2 fun y hy => ?_).symm
      simp only [decide_eq_true_eq, ne_eq]
      exact fun h2 => h.1 (List.mem_map.2 ⟨y, hy, by rw [h2, e]⟩)
    · have ih := drS_filter (th := th) h.2
      unfold drS at ih
      rw [List.eraseP_cons_of_neg (by simpa using e), List.filter_cons, if_pos (by simpa using e), ih]
theorem nodup_filter {p : Wt → Bool} {S : List Wt} (h : (S.map (·.th)).Nodup) : ((S.filter p).map (·.th)).Nodup :=
  (List.filter_sublist.map _).nodup h
theorem drAll_filter : ∀ (ls : List Wk) {S : List Wt}, (S.map (·.th)).Nodup → drAll ls S = S.filter fun x => decide (x.th ∉ ls.map (·.th))
  | [], S, _ => by
    show S = _
    exact (List.filter_eq_self.2 fun x _ => by simp).symm
  | y :: r, S, h => by
    show drAll r (drS y.th S) = _
    rw [drS_filter h, drAll_filter r (nodup_filter h), List.filter_filter]
    refine List.filter_congr fun x _ => ?_
    simp only [List.map_cons, List.mem_cons, not_or, Bool.decide_and, Bool.and_comm]
def mapG (T : List Wt) : Int → Option Value := fun k => (T.find? fun x => decide (x.th = k)).map fun x => .int .i64 x.dl
theorem mapG_snoc {T : List Wt} {x : Wt} (h : ∀ y ∈ T, y.th ≠ x.th) : upd (mapG T) x.th (.int .i64 x.dl) = mapG (T ++ [x]) := by
  funext k
  unfold upd mapG
  rw [List.find?_append]
  by_cases e : k = x.th
  · rw [if_pos e]
    have : (T.find? fun y => decide (y.th = k)) = none := List.find?_eq_none.2 fun y hy => by simpa using fun h2 : y.th = k => h y hy (h2.trans e)
    rw [this]
    simp [e]
  · rw [if_neg e]
    have : [x].find? (fun y => decide (y.th = k)) = none := List.find?_eq_none.2 fun y hy => by rw [List.mem_singleton.1 hy]; simpa using fun h2 : x.th = k => e h2.symm
    rw [this, Option.or_none]
theorem mapG_of {T : List Wt} {x : Wt} (hn : (T.map (·.th)).Nodup) (hx : x ∈ T) : mapG T x.th = some (.int .i64 x.dl) := by
  unfold mapG
  induction T with
  | nil => cases hx
  | cons y r ih =>
    rw [List.map_cons, List.nodup_cons] at hn
    rw [List.find?_cons]
    rcases List.mem_cons.1 hx with rfl | hx
    · simp
    · have : y.th ≠ x.th := fun e => hn.1 (List.mem_map.2 ⟨x, hx, e.symm⟩)
      simp only [this, decide_false]
      exact ih hn.2 hx
theorem mapG_some {T : List Wt} {k : Int} {v : Value} (h : mapG T k = some v) : ∃ x ∈ T, x.th = k ∧ v = .int .i64 x.dl := by
  unfold mapG at h
  obtain ⟨x, hx, rfl⟩ := Option.map_eq_some_iff.1 h
  exact ⟨x, List.mem_of_find?_eq_some hx, by simpa using List.find?_some hx, rfl⟩
def delG (T P : List Wt) : Int → Option Value := fun k => if k ∈ P.map (·.th) then none else mapG T k
theorem delG_nil (T : List Wt) : delG T [] = mapG T := by funext k; simp [delG]
theorem delG_snoc {T P : List Wt} {x : Wt} : Jac.del (delG T P) x.th = delG T (P ++ [x]) := by
  funext k
  unfold Jac.del delG
  by_cases e : k = x.th
  · simp [e]
  · simp [e]
theorem filter_two {α : Type} (p : α → Bool) : ∀ l : List α, (l.filter p).length + (l.filter fun x => !p x).length = l.length
  | [] => rfl
  | x :: r => by
    have ih := filter_two p r
    rw [List.filter_cons, List.filter_cons, List.length_cons]
    cases p x <;> simp <;> omega
/-- Those who are late, and the others. -/
theorem late_facts {now : Int} {T P : List Wt} (hn : (T.map (·.th)).Nodup) (h : lateP now T P) : (∀ x ∈ P, x ∈ T ∧ x.dl ≤ now) ∧ (P.map (·.th)).Nodup ∧ P.length ≤ T.length ∧
    (∀ x ∈ T, x.th ∉ P.map (·.th) → now < x.dl) ∧ (drAll (P.map lateW) T).length = T.length - P.length := by
  have h1 : ∀ x ∈ P, x ∈ T ∧ x.dl ≤ now := fun x hx => by
    have := List.mem_filter.1 (h.1.mem_iff.1 hx)
    exact ⟨this.1, by simpa using this.2⟩
  have h3 : (P.map (·.th)).Nodup := (h.1.map _).nodup_iff.2 (nodup_filter hn)
  have h4 : P.length ≤ T.length := by rw [h.1.length_eq]; exact List.length_filter_le _ _
  have h5 : ∀ x ∈ T, x.th ∉ P.map (·.th) → now < x.dl := fun x hx hno => by
    refine Classical.byContradiction fun hle => hno (List.mem_map.2 ⟨x, h.1.mem_iff.2 (List.mem_filter.2 ⟨hx, by simpa using hle⟩), rfl⟩)
  refine ⟨h1, h3, h4, h5, ?_⟩
  rw [drAll_filter _ hn]
  have hth : (P.map lateW).map (·.th) = P.map (·.th) := by rw [List.map_map]; rfl
  rw [hth]
  have e : T.filter (fun x => decide (x.th ∉ P.map (·.th))) = T.filter fun x => decide (now < x.dl) := by
    refine List.filter_congr fun x hx => ?_
    by_cases hlt : now < x.dl
    · have : x.th ∉ P.map (·.th) := fun hm => by
        obtain ⟨y, hy, hyx⟩ := List.mem_map.1 hm
        have hyT := h1 y hy
        have : y = x := by
          have a := mapG_of hn hyT.1
          have hp := List.pairwise_iff_getElem.1 hn
          obtain ⟨i, hi, rfl⟩ := List.getElem_of_mem hyT.1
          obtain ⟨j, hj, rfl⟩ := List.getElem_of_mem hx
          rcases Nat.lt_trichotomy i j with hij | rfl | hij
          · exact absurd (by rw [List.getElem_map, List.getElem_map]; exact hyx) (hp i j (by simpa using hi) (by simpa using hj) hij)
          · rfl
          · exact absurd (by rw [List.getElem_map, List.getElem_map]; exact hyx.symm) (hp j i (by simpa using hj) (by simpa using hi) hij)
        subst this
        omega
      simp only [this, hlt, not_false_eq_true, decide_true]
    · have : x.th ∈ P.map (·.th) := Classical.byContradiction fun hm => hlt (h5 x hx hm)
      simp only [this, hlt, not_true_eq_false, decide_false]
  rw [e, h.1.length_eq]
  have := filter_two (fun x : Wt => decide (now < x.dl)) T
  omega
theorem wix_sig {th : Int} {S T : List Wt} (h : T.map (·.th) = S.map (·.th)) : wix th T = wix th S := by
  have key : ∀ S : List Wt, wix th S = fidx (fun t => decide (t = th)) (S.map (·.th)) := fun S => by
    unfold wix fidx
    rw [List.findIdx_map, List.length_map]; rfl
  rw [key, key, h]
theorem bst_sig {most th : Int} {S T : List Wt} {it : List It} (h : T.map (·.th) = S.map (·.th)) : bst most T th it = bst most S th it := by
  have hl : T.length = S.length := by simpa using congrArg List.length h
  unfold bst
  rw [wix_sig h, hl]
end Go.Proofs.Ythjkmgckkacegaa
