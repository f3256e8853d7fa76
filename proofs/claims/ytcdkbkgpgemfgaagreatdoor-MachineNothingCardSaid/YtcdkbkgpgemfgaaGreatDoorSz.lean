/- Going through a map that nothing changes meanwhile: what was seen; at the end all was. -/
import Derived.Test.YtcdkbkgpgemfgaaGreatDoorSn
import Derived.Maps.RangeRun
set_option maxRecDepth 100000
namespace Go.Jac
open Go
structure MitOk (es : Array MapEntry) (clock since c0 : Nat) (seen : Array Nat) (g : Int → Option Value) (n m : Nat) (cur : Option (Int × Value)) : Prop where
  map : MpOk es.toList clock g n
  old : ∀ x ∈ es.toList, x.born < since
  le : since ≤ c0
  le2 : since ≤ clock
  left : (leftOf es seen).size = m
  now : ∀ k v, cur = some (k, v) → ∃ e ∈ es.toList, ∃ s : Array Nat, seen = s.push e.born ∧ e.key = .int .i64 k ∧ e.val = v ∧ c0 = clock
/-- A walk through a map: m entries are left. -/
def Mit (r b : Nat) (g : Int → Option Value) (n m : Nat) (cur : Option (Int × Value)) : HP := ex fun (p : (Array MapEntry × Nat) × (Nat × Array Nat × Nat)) =>
  sat [pts r (.mapIter (some b) p.2.1 p.2.2.1 p.2.2.2), pts b (.map p.1.1 p.1.2), pr (MitOk p.1.1 p.1.2 p.2.1 p.2.2.2 p.2.2.1 g n m cur)]
/-- How many entries a walk has left. -/
def mitLeft (r b : Nat) (w : World) : Nat := match w.heap[r]?, w.heap[b]? with | some (.mapIter _ _ seen _), some (.map es _) => (leftOf es seen).size | _, _ => 0
section
variable {P : Program} {w0 w : World} {L : List HP} {K : Value → WP} {r b n m : Nat} {g : Int → Option Value} {t kt et : TypeId} {k : Int} {v : Value} {cur : Option (Int × Value)}
theorem Mit.out (d : D w0 (Mit r b g n m cur :: L) w) : ∃ es clock since seen c0, MitOk es clock since c0 seen g n m cur ∧ D w0 (pts r (.mapIter (some b) since seen c0) :: pts b (.map es clock) :: L) w := by
  obtain ⟨p, d⟩ := d.ex
  have d := d.opens
  have h : MitOk p.1.1 p.1.2 p.2.1 p.2.2.2 p.2.2.1 g n m cur := (d.pick 2 : D w0 (pr _ :: _) w).1.pr_out
  exact ⟨_, _, _, _, _, h, (d.pick 2 : D w0 (pr _ :: _) w).tail⟩
theorem Mit.mk {es : Array MapEntry} {clock since c0 : Nat} {seen : Array Nat} (h : MitOk es clock since c0 seen g n m cur) (d : D w0 (pts r (.mapIter (some b) since seen c0) :: pts b (.map es clock) :: L) w) : D w0 (Mit r b g n m cur :: L) w :=
  D.mk_ex (A := fun (p : (Array MapEntry × Nat) × (Nat × Array Nat × Nat)) => sat [pts r (.mapIter (some b) p.2.1 p.2.2.1 p.2.2.2), pts b (.map p.1.1 p.1.2), pr (MitOk p.1.1 p.1.2 p.2.1 p.2.2.2 p.2.2.1 g n m cur)]) ((es, clock), (since, seen, c0)) (D.close (M := [_, _, _]) ⟨(Sat.pr_mk h d.1).back 2, d.2⟩)
theorem Mit.map (d : D w0 (Mit r b g n m cur :: L) w) : D w0 (Mp b g n :: L) w := by
  obtain ⟨es, clock, since, seen, c0, h, d⟩ := Mit.out d
  exact d.tail.hd fun _ hb => ⟨es, clock, hb, h.map⟩
theorem Mit.left_eq (d : D w0 (Mit r b g n m cur :: L) w) : mitLeft r b w = m := by
  obtain ⟨es, clock, since, seen, c0, h, d⟩ := Mit.out d
  have hr : w.heap[r]? = some (.mapIter (some b) since seen c0) := d.1.get
  have hb : w.heap[b]? = some (.map es clock) := d.swap.1.get
  unfold mitLeft
  rw [hr, hb]
  exact h.left
theorem mrange_ok (ht : P.underlying t = some (.map kt et)) (d : D w0 (Mp b g n :: L) w) (kk : ∀ r m w', D w0 (Mit r b g n m none :: L) w' → K (.pointer (some ⟨r, 0, none⟩)) w') : Ex P (Instr.range t (.map (some b))) K w := by
  obtain ⟨es, clock, hb, hm⟩ := Mp.at_ d
  have d1 : D w0 (pts b (.map es clock) :: L) w := by
    obtain ⟨⟨h1, h2, s, ⟨es1, c1, hb1, ok1⟩, l⟩, kp⟩ := d
    have : hw w b = some (.map es1 c1) := s.l hb1
    have e : w.heap[b]? = some (.map es1 c1) := this
    rw [hb] at e
    obtain ⟨rfl, rfl⟩ : es = es1 ∧ clock = c1 := by injection e with e; injection e with e1 e2; exact ⟨e1, e2⟩
    exact ⟨⟨h1, h2, s, hb1, l⟩, kp⟩
  refine ⟨_, _, run_range_map w t kt et b es clock ht hb, kk _ _ _ (Mit.mk (seen := #[]) ⟨hm, hm.born, Nat.le_refl _, Nat.le_refl _, rfl, by simp⟩ ⟨?_, d1.2.trans (Kp.alloc _ _)⟩)⟩
  rw [hw_alloc]
  exact Sat.new (hw_none w) d1.1
theorem mnext_ok {ty : TypeId} (d : D w0 (Mit r b g n m cur :: L) w) (k0 : ∀ w', D w0 (Mit r b g n m none :: L) w' → K (.tuple #[.bool false]) w')
    (k1 : ∀ m' k v w', m' < m → g k = some v → D w0 (Mit r b g n m' (some (k, v)) :: L) w' → K (.tuple #[.bool true, .int .i64 k, v]) w') : Ex P (Instr.next (.pointer (some ⟨r, 0, none⟩)) false ty) K w := by
  obtain ⟨es, clock, since, seen, c0, h, d⟩ := Mit.out d
  have hr : w.heap[r]? = some (.mapIter (some b) since seen c0) := d.1.get
  have hb : w.heap[b]? = some (.map es clock) := d.swap.1.get
  rcases run_next_at (P := P) w ty r b since c0 seen es clock hr hb h.old h.le with ⟨h0, hrun⟩ | ⟨e, he, w1, hw1, hrun⟩
  · exact ⟨_, _, hrun, k0 _ (Mit.mk ⟨h.map, h.old, h.le, h.le2, h.left, by simp⟩ d)⟩
  · have hmem := mem_left he
    have hkey := h.map.key e hmem.1
    have hg : g (kI e.key) = some e.val := by rw [h.map.get, find_uniq h.map.nd hmem.1]; rfl
    have d1 : D w0 (pts r (.mapIter (some b) since seen c0) :: pts b (.map es clock) :: L) w1 := by
      rcases hw1 with rfl | rfl
      · exact d
      · exact d.drawn
    have d2 := D.put (o' := .mapIter (some b) since (seen.push e.born) clock) d1
    have hlt := left_shrinks es seen e he
    refine ⟨_, _, hrun, ?_⟩
    rw [hkey]
    refine k1 _ _ _ _ (by rw [← h.left]; exact hlt) hg (Mit.mk ⟨h.map, h.old, h.le2, h.le2, rfl, ?_⟩ d2)
    · intro k v hkv
      cases hkv
      exact ⟨e, hmem.1, seen, rfl, hkey, rfl, rfl⟩
theorem mentry_ok (d : D w0 (Mit r b g n m (some (k, v)) :: L) w) (kk : K (.tuple #[.int .i64 k, v]) w) : Ex P (Instr.entry (.pointer (some ⟨r, 0, none⟩))) K w := by
  obtain ⟨es, clock, since, seen, c0, h, d⟩ := Mit.out d
  obtain ⟨e, he, s, rfl, hk, hv, rfl⟩ := h.now k v rfl
  have hr : w.heap[r]? = some (.mapIter (some b) since (s.push e.born) c0) := d.1.get
  have hb : w.heap[b]? = some (.map es c0) := d.swap.1.get
  refine ⟨_, _, run_entry_at w r b since s es c0 e hr hb he h.map.bnd, ?_⟩
  rw [hk, hv]; exact kk
end
end Go.Jac
set_option maxRecDepth 100000
namespace Go.Jac
open Go
structure MisOk (Q : Int → Prop) (es : Array MapEntry) (clock since c0 : Nat) (seen : Array Nat) (g : Int → Option Value) (n m : Nat) (cur : Option (Int × Value)) : Prop extends MitOk es clock since c0 seen g n m cur where
  all : ∀ e ∈ es.toList, Q (kI e.key) ∨ seen.contains e.born = false
  inv : ∀ e ∈ es.toList, Q (kI e.key) → seen.contains e.born = true
def Mis (r b : Nat) (g : Int → Option Value) (n m : Nat) (Q : Int → Prop) (cur : Option (Int × Value)) : HP := ex fun (p : (Array MapEntry × Nat) × (Nat × Array Nat × Nat)) =>
  sat [pts r (.mapIter (some b) p.2.1 p.2.2.1 p.2.2.2), pts b (.map p.1.1 p.1.2), pr (MisOk Q p.1.1 p.1.2 p.2.1 p.2.2.2 p.2.2.1 g n m cur)]
section
variable {P : Program} {w0 w : World} {L : List HP} {K : Value → WP} {r b n m : Nat} {g : Int → Option Value} {t kt et : TypeId} {k : Int} {v : Value} {cur : Option (Int × Value)} {Q : Int → Prop}
theorem Mis.out (d : D w0 (Mis r b g n m Q cur :: L) w) : ∃ es clock since seen c0, MisOk Q es clock since c0 seen g n m cur ∧ D w0 (pts r (.mapIter (some b) since seen c0) :: pts b (.map es clock) :: L) w := by
  obtain ⟨p, d⟩ := d.ex
  have d := d.opens
  have h : MisOk Q p.1.1 p.1.2 p.2.1 p.2.2.2 p.2.2.1 g n m cur := (d.pick 2 : D w0 (pr _ :: _) w).1.pr_out
  exact ⟨_, _, _, _, _, h, (d.pick 2 : D w0 (pr _ :: _) w).tail⟩
theorem Mis.mk {es : Array MapEntry} {clock since c0 : Nat} {seen : Array Nat} (h : MisOk Q es clock since c0 seen g n m cur) (d : D w0 (pts r (.mapIter (some b) since seen c0) :: pts b (.map es clock) :: L) w) : D w0 (Mis r b g n m Q cur :: L) w :=
  D.mk_ex (A := fun (p : (Array MapEntry × Nat) × (Nat × Array Nat × Nat)) => sat [pts r (.mapIter (some b) p.2.1 p.2.2.1 p.2.2.2), pts b (.map p.1.1 p.1.2), pr (MisOk Q p.1.1 p.1.2 p.2.1 p.2.2.2 p.2.2.1 g n m cur)]) ((es, clock), (since, seen, c0)) (D.close (M := [_, _, _]) ⟨(Sat.pr_mk h d.1).back 2, d.2⟩)
theorem Mis.map (d : D w0 (Mis r b g n m Q cur :: L) w) : D w0 (Mp b g n :: L) w := by
  obtain ⟨es, clock, since, seen, c0, h, d⟩ := Mis.out d
  exact d.tail.hd fun _ hb => ⟨es, clock, hb, h.map⟩
theorem Mis.left_eq (d : D w0 (Mis r b g n m Q cur :: L) w) : mitLeft r b w = m := by
  obtain ⟨es, clock, since, seen, c0, h, d⟩ := Mis.out d
  have hr : w.heap[r]? = some (.mapIter (some b) since seen c0) := d.1.get
  have hb : w.heap[b]? = some (.map es clock) := d.swap.1.get
  unfold mitLeft
  rw [hr, hb]
  exact h.left
theorem srange_ok (ht : P.underlying t = some (.map kt et)) (d : D w0 (Mp b g n :: L) w) (kk : ∀ r m w', D w0 (Mis r b g n m (fun _ => False) none :: L) w' → K (.pointer (some ⟨r, 0, none⟩)) w') : Ex P (Instr.range t (.map (some b))) K w := by
  obtain ⟨es, clock, hb, hm⟩ := Mp.at_ d
  have d1 : D w0 (pts b (.map es clock) :: L) w := by
    obtain ⟨⟨h1, h2, s, ⟨es1, c1, hb1, ok1⟩, l⟩, kp⟩ := d
    have : hw w b = some (.map es1 c1) := s.l hb1
    have e : w.heap[b]? = some (.map es1 c1) := this
    rw [hb] at e
    obtain ⟨rfl, rfl⟩ : es = es1 ∧ clock = c1 := by injection e with e; injection e with e1 e2; exact ⟨e1, e2⟩
    exact ⟨⟨h1, h2, s, hb1, l⟩, kp⟩
  refine ⟨_, _, run_range_map w t kt et b es clock ht hb, kk _ _ _ (Mis.mk (seen := #[]) ⟨⟨hm, hm.born, Nat.le_refl _, Nat.le_refl _, rfl, by simp⟩, fun e _ => .inr (by simp), fun e _ h => h.elim⟩ ⟨?_, d1.2.trans (Kp.alloc _ _)⟩)⟩
  rw [hw_alloc]
  exact Sat.new (hw_none w) d1.1
theorem born_inj {es : List MapEntry} (h : (es.map (·.born)).Nodup) {x y : MapEntry} (hx : x ∈ es) (hy : y ∈ es) (e : x.born = y.born) : x = y := by
  induction es with
  | nil => cases hx
  | cons z r ih =>
    rw [List.map_cons, List.nodup_cons] at h
    rcases List.mem_cons.1 hx with h1 | h1 <;> rcases List.mem_cons.1 hy with h2 | h2
    · rw [h1, h2]
    · exact absurd (List.mem_map.2 ⟨y, h2, by rw [← h1]; exact e.symm⟩) h.1
    · exact absurd (List.mem_map.2 ⟨x, h1, by rw [← h2]; exact e⟩) h.1
    · exact ih h.2 h1 h2
theorem snextN_ok {ty : TypeId} (d : D w0 (Mis r b g n m Q cur :: L) w) (k0 : (∀ k v, g k = some v → Q k) → ∀ w', D w0 (Mis r b g n m Q none :: L) w' → K (.tuple #[.bool false]) w')
    (k1 : ∀ m' k v w', m' < m → ¬ Q k → g k = some v → D w0 (Mis r b g n m' (fun x => x = k ∨ Q x) (some (k, v)) :: L) w' → K (.tuple #[.bool true, .int .i64 k, v]) w') : Ex P (Instr.next (.pointer (some ⟨r, 0, none⟩)) false ty) K w := by
  obtain ⟨es, clock, since, seen, c0, h, d⟩ := Mis.out d
  have hr : w.heap[r]? = some (.mapIter (some b) since seen c0) := d.1.get
  have hb : w.heap[b]? = some (.map es clock) := d.swap.1.get
  rcases run_next_at (P := P) w ty r b since c0 seen es clock hr hb h.old h.le with ⟨h0, hrun⟩ | ⟨e, he, w1, hw1, hrun⟩
  · refine ⟨_, _, hrun, k0 (fun k v hk => ?_) _ (Mis.mk ⟨⟨h.map, h.old, h.le, h.le2, h.left, by simp⟩, h.all, h.inv⟩ d)⟩
    rw [h.map.get] at hk
    cases hf : es.toList.find? fun e => decide (kI e.key = k) with
    | none => rw [hf] at hk; cases hk
    | some e =>
      have hmem := List.mem_of_find?_eq_some hf
      have hkey : kI e.key = k := by simpa using List.find?_some hf
      rcases h.all e hmem with hq | hq
      · rw [hkey] at hq; exact hq
      · exfalso
        have : e ∈ leftOf es seen := by
          unfold leftOf
          rw [Array.mem_filter]
          exact ⟨by simpa using hmem, by simp only [hq, Bool.not_false]⟩
        have hpos := Array.size_pos_of_mem this
        omega
  · have hmem := mem_left he
    have hkey := h.map.key e hmem.1
    have hg : g (kI e.key) = some e.val := by rw [h.map.get, find_uniq h.map.nd hmem.1]; rfl
    have d1 : D w0 (pts r (.mapIter (some b) since seen c0) :: pts b (.map es clock) :: L) w1 := by
      rcases hw1 with rfl | rfl
      · exact d
      · exact d.drawn
    have d2 := D.put (o' := .mapIter (some b) since (seen.push e.born) clock) d1
    have hlt := left_shrinks es seen e he
    refine ⟨_, _, hrun, ?_⟩
    rw [hkey]
    have huns : seen.contains e.born = false := by
      have h1 : e ∈ leftOf es seen := by simpa using he
      unfold leftOf at h1
      have := (Array.mem_filter.1 h1).2
      simpa using this
    refine k1 _ _ _ _ (by rw [← h.left]; exact hlt) (fun hq => by rw [h.inv e hmem.1 hq] at huns; cases huns) hg (Mis.mk ⟨⟨h.map, h.old, h.le2, h.le2, rfl, ?_⟩, fun x hx => ?_, fun x hx hq => ?_⟩ d2)
    · intro k v hkv
      cases hkv
      exact ⟨e, hmem.1, seen, rfl, hkey, rfl, rfl⟩
    · by_cases hb : x.born = e.born
      · exact .inl (.inl (by rw [born_inj h.map.bnd hx hmem.1 hb]))
      · rcases h.all x hx with hq | hq
        · exact .inl (.inr hq)
        · refine .inr ?_
          rw [Array.contains_push, hq]
          simpa using hb
    · rw [Array.contains_push]
      rcases hq with hq | hq
      · have hx1 := find_uniq h.map.nd hx
        have he1 := find_uniq h.map.nd hmem.1
        rw [hq, he1] at hx1
        rw [Option.some.inj hx1]; simp
      · rw [h.inv x hx hq]; simp
theorem snext_ok {ty : TypeId} (d : D w0 (Mis r b g n m Q cur :: L) w) (k0 : (∀ k v, g k = some v → Q k) → ∀ w', D w0 (Mis r b g n m Q none :: L) w' → K (.tuple #[.bool false]) w')
    (k1 : ∀ m' k v w', m' < m → g k = some v → D w0 (Mis r b g n m' (fun x => x = k ∨ Q x) (some (k, v)) :: L) w' → K (.tuple #[.bool true, .int .i64 k, v]) w') : Ex P (Instr.next (.pointer (some ⟨r, 0, none⟩)) false ty) K w :=
  snextN_ok d k0 fun m' k v w' h1 _ => k1 m' k v w' h1
theorem sentry_ok (d : D w0 (Mis r b g n m Q (some (k, v)) :: L) w) (kk : K (.tuple #[.int .i64 k, v]) w) : Ex P (Instr.entry (.pointer (some ⟨r, 0, none⟩))) K w := by
  obtain ⟨es, clock, since, seen, c0, h, d⟩ := Mis.out d
  obtain ⟨e, he, s, rfl, hk, hv, rfl⟩ := h.now k v rfl
  have hr : w.heap[r]? = some (.mapIter (some b) since (s.push e.born) c0) := d.1.get
  have hb : w.heap[b]? = some (.map es c0) := d.swap.1.get
  refine ⟨_, _, run_entry_at w r b since s es c0 e hr hb he h.map.bnd, ?_⟩
  rw [hk, hv]; exact kk
end
end Go.Jac
