/- Maps whose keys are whole numbers. -/
import Derived.Test.YtcdkbkgpgemfgaaGreatDoorSm
namespace Go.Jac
open Go
def kI (v : Value) : Int := match v with | .int _ n => n | _ => 0
structure MpOk (es : List MapEntry) (clock : Nat) (g : Int → Option Value) (n : Nat) : Prop where
  key : ∀ e ∈ es, e.key = .int .i64 (kI e.key)
  nd : (es.map fun e => kI e.key).Nodup
  born : ∀ e ∈ es, e.born < clock
  bnd : (es.map (·.born)).Nodup
  get : ∀ k, g k = (es.find? fun e => decide (kI e.key = k)).map (·.val)
  len : es.length = n
/-- A map: what it holds, and how many. -/
def Mp (b : Nat) (g : Int → Option Value) (n : Nat) : HP := fun h => ∃ es clock, h b = some (.map es clock) ∧ MpOk es.toList clock g n
def fnd (k : Int) : List MapEntry → Nat → Option (Nat × Value)
  | [], _ => none
  | e :: r, i => if kI e.key = k then some (i, e.val) else fnd k r (i + 1)
theorem findNow_eq {k : Int} : ∀ {es : List MapEntry} {i : Nat}, (∀ e ∈ es, e.key = .int .i64 (kI e.key)) → Instr.findNow (.int .i64) (.int .i64 k) es i = some (fnd k es i)
  | [], _, _ => rfl
  | e :: r, i, h => by
    obtain ⟨n, hn⟩ : ∃ n, e.key = .int .i64 n := ⟨_, h e (by simp)⟩
    have hkn : kI e.key = n := by rw [hn]; rfl
    have hs : Instr.sameNow (.int .i64) (.int .i64 k) e.key = some (k == n) := by rw [hn]; simp [Instr.sameNow]
    unfold Instr.findNow fnd
    rw [hs, hkn]
    by_cases hk : n = k
    · simp [hk]
    · have : (k == n) = false := by simpa using fun h : k = n => hk h.symm
      rw [this, if_neg hk]
      exact findNow_eq fun e' h' => h e' (by simp [h'])
theorem fnd_none {k : Int} : ∀ {es : List MapEntry} {i : Nat}, fnd k es i = none → ∀ e ∈ es, kI e.key ≠ k
  | [], _, _, e, he => by cases he
  | x :: r, i, h, e, he => by
    unfold fnd at h
    split at h
    · cases h
    · rename_i hx
      rcases List.mem_cons.1 he with rfl | he
      · exact hx
      · exact fnd_none h e he
theorem fnd_some {k : Int} {j : Nat} {v : Value} : ∀ {es : List MapEntry} {i : Nat}, fnd k es i = some (j, v) → ∃ q, j = i + q ∧ ∃ e, es[q]? = some e ∧ kI e.key = k ∧ e.val = v
  | [], _, h => by cases h
  | x :: r, i, h => by
    unfold fnd at h
    split at h
    · rename_i hx
      cases h
      exact ⟨0, rfl, x, rfl, hx, rfl⟩
    · obtain ⟨q, h1, e, h2, h3⟩ := fnd_some h
      exact ⟨q + 1, by omega, e, by simpa using h2, h3⟩
theorem fnd_find {k : Int} : ∀ {es : List MapEntry} {i : Nat}, (fnd k es i).map (·.2) = (es.find? fun e => decide (kI e.key = k)).map (·.val)
  | [], _ => rfl
  | x :: r, i => by
    unfold fnd
    rw [List.find?_cons]
    by_cases hx : kI x.key = k
    · simp [hx]
    · simp only [hx, if_false, decide_false]; exact fnd_find
section
variable {P : Program} {w0 w : World} {L : List HP} {K : Value → WP} {b n : Nat} {g : Int → Option Value} {t kt et : TypeId} {k : Int} {v : Value}
theorem Mp.at_ (d : D w0 (Mp b g n :: L) w) : ∃ es clock, w.heap[b]? = some (.map es clock) ∧ MpOk es.toList clock g n := by
  obtain ⟨⟨h1, h2, s, ⟨es, clock, hb, ok⟩, l⟩, _⟩ := d
  exact ⟨es, clock, s.l hb, ok⟩
theorem Mp.set {g' : Int → Option Value} {n' : Nat} {es : Array MapEntry} {clock : Nat} (d : D w0 (Mp b g n :: L) w) (ok : MpOk es.toList clock g' n') : D w0 (Mp b g' n' :: L) (World.put' w b (.map es clock)) := by
  obtain ⟨es0, clock0, hb, ok0⟩ := Mp.at_ d
  have d1 : D w0 (pts b (.map es0 clock0) :: L) w := by
    obtain ⟨⟨h1, h2, s, ⟨es1, c1, hb1, ok1⟩, l⟩, kp⟩ := d
    have : hw w b = some (.map es1 c1) := s.l hb1
    have e : w.heap[b]? = some (.map es1 c1) := this
    rw [hb] at e
    obtain ⟨rfl, rfl⟩ : es0 = es1 ∧ clock0 = c1 := by injection e with e; injection e with e1 e2; exact ⟨e1, e2⟩
    exact ⟨⟨h1, h2, s, hb1, l⟩, kp⟩
  exact (D.put (o' := .map es clock) d1).hd fun _ h => ⟨es, clock, h, ok⟩
theorem run_checkKey {e : Bool} {w : World} (hk : P.underlying kt = some (.int .i64)) (k : Int) : (Instr.checkKey e 10000 kt (.int .i64 k)).run P w = .ok () w := by
  unfold Instr.checkKey
  simp only [Sem.run_bind, run_underlying hk, Result.andThen_ok, Sem.run_pure]
theorem run_findKey {es : List MapEntry} {w : World} (hk : P.underlying kt = some (.int .i64)) (h : ∀ e ∈ es, e.key = .int .i64 (kI e.key)) : (Instr.findKey kt (.int .i64 k) es).run P w = .ok (fnd k es 0) w := by
  unfold Instr.findKey
  simp only [Sem.run_bind, run_underlying hk, Result.andThen_ok, findNow_eq h, Sem.run_pure]
theorem run_getMap {es : Array MapEntry} {clock : Nat} (hb : w.heap[b]? = some (.map es clock)) : (getObj b).run P w = .ok (.map es clock) w := by
  simp [getObj, Sem.run, hb]
theorem run_setMap {es : Array MapEntry} {clock : Nat} {o : Obj} (hb : w.heap[b]? = some (.map es clock)) : (setObj b o).run P w = .ok () (World.put' w b o) := by
  simp [setObj, Sem.run, hb, World.put']
theorem lk_run (ht : P.underlying t = some (.map kt et)) (hk : P.underlying kt = some (.int .i64)) {z : Value} (hz : ((P.info? et).bind (·.zero)) = some z) (d : D w0 (Mp b g n :: L) w) (ok : Bool) :
    (Instr.lookup t (.map (some b)) (.int .i64 k) ok).run P w = .ok (if ok then .tuple #[(g k).getD z, .bool (g k).isSome] else (g k).getD z) w := by
  obtain ⟨es, clock, hb, hm⟩ := Mp.at_ d
  obtain ⟨i, hi, hzi⟩ := Option.bind_eq_some_iff.1 hz
  unfold Instr.lookup
  simp only [Sem.run_bind, run_underlying ht, Result.andThen_ok, run_getMap hb, Sem.run_pure, run_checkKey hk, run_findKey hk hm.key]
  have hf := fnd_find (k := k) (es := es.toList) (i := 0)
  rw [← hm.get k] at hf
  cases h : fnd k es.toList 0 with
  | none =>
    rw [h] at hf
    rw [← hf]
    simp only [Sem.run_bind, run_zeroValue hi hzi, Result.andThen_ok, Sem.run_pure]
    cases ok <;> rfl
  | some jv =>
    obtain ⟨j, v⟩ := jv
    rw [h] at hf
    rw [← hf]
    simp only [Sem.run_pure, Result.andThen_ok]
    cases ok <;> rfl
theorem lk_ok (ht : P.underlying t = some (.map kt et)) (hk : P.underlying kt = some (.int .i64)) {z : Value} (hz : ((P.info? et).bind (·.zero)) = some z) (d : D w0 (Mp b g n :: L) w) (kk : K (.tuple #[(g k).getD z, .bool (g k).isSome]) w) :
    Ex P (Instr.lookup t (.map (some b)) (.int .i64 k) true) K w := ⟨_, _, lk_run ht hk hz d true, kk⟩
theorem lk1_ok (ht : P.underlying t = some (.map kt et)) (hk : P.underlying kt = some (.int .i64)) {z : Value} (hz : ((P.info? et).bind (·.zero)) = some z) (d : D w0 (Mp b g n :: L) w) (kk : K ((g k).getD z) w) :
    Ex P (Instr.lookup t (.map (some b)) (.int .i64 k) false) K w := ⟨_, _, lk_run ht hk hz d false, kk⟩
theorem mlen_ok {ty : TypeId} (ht : P.underlying t = some (.map kt et)) (d : D w0 (Mp b g n :: L) w) (kk : K (.int .i64 n) w) : Ex P (Builtin.len_ #[t] ty #[.map (some b)]) K w := by
  obtain ⟨es, clock, hb, hm⟩ := Mp.at_ d
  refine ⟨_, _, ?_, kk⟩
  unfold Builtin.len_
  simp [run_underlying ht, run_getMap hb, goInt, ← hm.len]
theorem mmk_ok (d : D w0 L w) (kk : ∀ b w', D w0 (Mp b (fun _ => none) 0 :: L) w' → K (.map (some b)) w') : Ex P (Instr.makeMap t none) K w := by
  refine ⟨.map (some w.heap.size), w.alloc (.map #[] 0), ?_, kk _ _ ⟨?_, d.2.trans (Kp.alloc _ _)⟩⟩
  · unfold Instr.makeMap
    simp only [Sem.run_bind, Sem.run_pure, Result.andThen_ok, run_newObj]
    rfl
  · rw [hw_alloc]
    exact (Sat.new (hw_none w) d.1).hd fun h hb => ⟨#[], 0, hb, by simp, by simp, by simp, by simp, by simp, rfl⟩
def upd {α : Type} (g : Int → Option α) (k : Int) (v : α) : Int → Option α := fun i => if i = k then some v else g i
def del {α : Type} (g : Int → Option α) (k : Int) : Int → Option α := fun i => if i = k then none else g i
theorem mo_get {es : List MapEntry} {clock : Nat} (h : MpOk es clock g n) : (g k).isSome = true ↔ ∃ e ∈ es, kI e.key = k := by
  rw [h.get k, Option.isSome_map, List.find?_isSome]
  simp
theorem find_uniq {es : List MapEntry} (hn : (es.map fun e => kI e.key).Nodup) {e : MapEntry} (he : e ∈ es) : es.find? (fun x => decide (kI x.key = kI e.key)) = some e := by
  induction es with
  | nil => cases he
  | cons x r ih =>
    rw [List.find?_cons]
    rw [List.map_cons, List.nodup_cons] at hn
    rcases List.mem_cons.1 he with rfl | he
    · simp
    · have : kI x.key ≠ kI e.key := fun h => hn.1 (List.mem_map.2 ⟨e, he, h.symm⟩)
      simp only [this, decide_false]
      exact ih hn.2 he
/-- A value written anew. -/
theorem mo_mod {es : List MapEntry} {clock q : Nat} {e : MapEntry} (h : MpOk es clock g n) (hq : es[q]? = some e) (v : Value) : MpOk (es.modify q fun x => { x with key := .int .i64 (kI e.key), val := v }) clock (upd g (kI e.key) v) n := by
  have hlt := (List.getElem?_eq_some_iff.1 hq).1
  have heq := (List.getElem?_eq_some_iff.1 hq).2
  have hke := h.key e (List.mem_of_getElem? hq)
  have hm : es.modify q (fun x => { x with key := .int .i64 (kI e.key), val := v }) = es.set q { e with val := v } := by
    apply List.ext_getElem
    · simp
    · intro i h1 h2
      rw [List.getElem_modify, List.getElem_set]
      split
      · rename_i hi; subst hi; rw [heq, ← hke]
      · rfl
  have hkeys : (es.set q { e with val := v }).map (fun x => kI x.key) = es.map fun x => kI x.key := by
    apply List.ext_getElem
    · simp
    · intro i h1 h2
      simp only [List.getElem_map, List.getElem_set]
      split
      · rename_i hi; subst hi; rw [heq]
      · rfl
  have hborn : (es.set q { e with val := v }).map (·.born) = es.map (·.born) := by
    apply List.ext_getElem
    · simp
    · intro i h1 h2
      simp only [List.getElem_map, List.getElem_set]
      split
      · rename_i hi; subst hi; rw [heq]
      · rfl
  rw [hm]
  have hmem : ∀ x ∈ es.set q { e with val := v }, x ∈ es ∨ x = { e with val := v } := fun x hx => by
    obtain ⟨i, hi, rfl⟩ := List.getElem_of_mem hx
    rw [List.getElem_set]
    split
    · exact .inr rfl
    · exact .inl (List.getElem_mem _)
  refine ⟨fun x hx => ?_, by rw [hkeys]; exact h.nd, fun x hx => ?_, by rw [hborn]; exact h.bnd, fun k => ?_, by simpa using h.len⟩
  · rcases hmem x hx with h1 | rfl
    · exact h.key x h1
    · exact hke
  · rcases hmem x hx with h1 | rfl
    · exact h.born x h1
    · exact h.born e (List.mem_of_getElem? hq)
  · unfold upd
    have hnd' : ((es.set q { e with val := v }).map fun e => kI e.key).Nodup := by rw [hkeys]; exact h.nd
    by_cases hk : k = kI e.key
    · subst hk
      rw [if_pos rfl]
      have he' : ({ e with val := v } : MapEntry) ∈ es.set q { e with val := v } := List.mem_set hlt _
      have := find_uniq hnd' he'
      simp only at this
      rw [this]; rfl
    · rw [if_neg hk, h.get k]
      have key : ∀ (es : List MapEntry) (q : Nat), es[q]? = some e → (es.set q { e with val := v }).find? (fun x => decide (kI x.key = k)) = es.find? fun x => decide (kI x.key = k) := by
        intro es
        induction es with
        | nil => intro q hq; simp at hq
        | cons x r ih =>
          intro q hq
          cases q with
          | zero =>
            simp only [List.getElem?_cons_zero, Option.some.injEq] at hq
            subst hq
            have : decide (kI x.key = k) = false := by simpa using fun h => hk h.symm
            rw [List.set_cons_zero, List.find?_cons, List.find?_cons, this]
          | succ q =>
            rw [List.set_cons_succ, List.find?_cons, List.find?_cons, ih q (by simpa using hq)]
      rw [key es q hq]
theorem mo_push {es : List MapEntry} {clock : Nat} (h : MpOk es clock g n) (hn : g k = none) (v : Value) : MpOk (es ++ [{ key := .int .i64 k, val := v, born := clock }]) (clock + 1) (upd g k v) (n + 1) := by
  have hno : ∀ e ∈ es, kI e.key ≠ k := fun e he hk => by
    have := (mo_get h (k := k)).2 ⟨e, he, hk⟩
    rw [hn] at this; cases this
  refine ⟨fun e he => ?_, ?_, fun e he => ?_, ?_, fun i => ?_, by simp [h.len]⟩
  · rcases List.mem_append.1 he with he | he
    · exact h.key e he
    · rw [List.mem_singleton.1 he]; rfl
  · rw [List.map_append, List.nodup_append]
    refine ⟨h.nd, by simp, ?_⟩
    intro a ha c hc e
    obtain ⟨x, hx, rfl⟩ := List.mem_map.1 ha
    simp [kI] at hc
    exact hno x hx (by rw [← hc]; exact e)
  · rcases List.mem_append.1 he with he | he
    · have := h.born e he; omega
    · rw [List.mem_singleton.1 he]; simp
  · rw [List.map_append, List.nodup_append]
    refine ⟨h.bnd, by simp, ?_⟩
    intro a ha c hc e
    obtain ⟨x, hx, rfl⟩ := List.mem_map.1 ha
    simp at hc
    have := h.born x hx
    omega
  · unfold upd
    rw [List.find?_append]
    by_cases hi : i = k
    · subst hi
      rw [if_pos rfl]
      have : es.find? (fun e => decide (kI e.key = i)) = none := by
        rw [List.find?_eq_none]
        intro e he; simpa using hno e he
      rw [this]
      simp [kI]
    · rw [if_neg hi, h.get i]
      have hk' : decide (kI (.int .i64 k) = i) = false := decide_eq_false fun h : k = i => hi h.symm
      have : ([{ key := .int .i64 k, val := v, born := clock }] : List MapEntry).find? (fun e => decide (kI e.key = i)) = none := by
        rw [List.find?_cons, hk']; rfl
      rw [this, Option.or_none]
theorem mup_run (ht : P.underlying t = some (.map kt et)) (hk : P.underlying kt = some (.int .i64)) (d : D w0 (Mp b g n :: L) w) :
    ∃ w', (Instr.mapUpdate t (.map (some b)) (.int .i64 k) v).run P w = .ok () w' ∧ D w0 (Mp b (upd g k v) (if (g k).isSome then n else n + 1) :: L) w' := by
  obtain ⟨es, clock, hb, hm⟩ := Mp.at_ d
  unfold Instr.mapUpdate
  simp only [Sem.run_bind, run_underlying ht, Result.andThen_ok, run_getMap hb, run_checkKey hk, run_findKey hk hm.key]
  have hf := fnd_find (k := k) (es := es.toList) (i := 0)
  rw [← hm.get k] at hf
  cases h : fnd k es.toList 0 with
  | none =>
    rw [h] at hf
    have hg : g k = none := by rw [← hf]; rfl
    rw [hg]
    refine ⟨_, run_setMap hb, ?_⟩
    have := mo_push hm hg v
    exact Mp.set d (by simpa using this)
  | some jv =>
    obtain ⟨j, u⟩ := jv
    rw [h] at hf
    have hg : (g k).isSome = true := by rw [← hf]; rfl
    rw [hg, if_pos rfl]
    obtain ⟨q, hq, e, he, hke, hv⟩ := fnd_some h
    have hq' : j = q := by omega
    subst hq'
    have hkey := hm.key e (List.mem_of_getElem? he)
    have he' : es[j]? = some e := by simpa using he
    have hst : (Instr.keyThatStays (((es[j]?).map (·.key)).getD (.int .i64 k)) (.int .i64 k)).run P w = .ok (.int .i64 k) w := by
      rw [he']
      simp only [Option.map_some, Option.getD_some]
      rw [hkey, hke]
      unfold Instr.keyThatStays
      simp [Instr.sameBits]
    simp only [Sem.run_bind, hst, Result.andThen_ok]
    refine ⟨_, run_setMap hb, ?_⟩
    have := mo_mod hm he v
    rw [hke] at this
    exact Mp.set d (by simpa using this)
theorem mup_ok (ht : P.underlying t = some (.map kt et)) (hk : P.underlying kt = some (.int .i64)) (d : D w0 (Mp b g n :: L) w)
    (kk : ∀ w', D w0 (Mp b (upd g k v) (if (g k).isSome then n else n + 1) :: L) w' → K undef w') : Ex P (do Instr.mapUpdate t (.map (some b)) (.int .i64 k) v; pure undef) K w := by
  obtain ⟨w', h, d'⟩ := mup_run (v := v) ht hk d
  exact ⟨_, _, by rw [Sem.run_bind, h]; rfl, kk _ d'⟩
theorem mo_del {es : List MapEntry} {clock q : Nat} {e : MapEntry} (h : MpOk es clock g n) (hq : es[q]? = some e) : MpOk (es.eraseIdx q) clock (del g (kI e.key)) (n - 1) := by
  have hlt := (List.getElem?_eq_some_iff.1 hq).1
  have heq := (List.getElem?_eq_some_iff.1 hq).2
  have hsub : (es.eraseIdx q).Sublist es := List.eraseIdx_sublist es q
  refine ⟨fun x hx => h.key x (hsub.mem hx), (hsub.map _).nodup h.nd, fun x hx => h.born x (hsub.mem hx), (hsub.map _).nodup h.bnd, fun k => ?_, by rw [List.length_eraseIdx_of_lt hlt, h.len]⟩
  unfold del
  by_cases hk : k = kI e.key
  · rw [if_pos hk]
    have : (es.eraseIdx q).find? (fun x => decide (kI x.key = k)) = none := by
      rw [List.find?_eq_none]
      intro x hx
      obtain ⟨j, hj, hjq, rfl⟩ := List.mem_eraseIdx_iff_getElem.1 hx
      have hp := List.pairwise_iff_getElem.1 h.nd
      have hne : kI es[j].key ≠ kI es[q].key := by
        rcases Nat.lt_or_gt_of_ne (show j ≠ q by assumption) with h1 | h1
        · have := hp j q (by simpa using hj) (by simpa using hlt) h1; simpa using this
        · have := hp q j (by simpa using hlt) (by simpa using hj) h1
          intro hc
          exact (by simpa using this : kI es[q].key ≠ kI es[j].key) hc.symm
      rw [hk, ← heq]
      simpa using hne
    rw [this]; rfl
  · rw [if_neg hk, h.get k]
    have key : ∀ (es : List MapEntry) (q : Nat), es[q]? = some e → (es.eraseIdx q).find? (fun x => decide (kI x.key = k)) = es.find? fun x => decide (kI x.key = k) := by
      intro es
      induction es with
      | nil => intro q hq; simp at hq
      | cons x r ih =>
        intro q hq
        cases q with
        | zero =>
          simp only [List.getElem?_cons_zero, Option.some.injEq] at hq
          subst hq
          have : decide (kI x.key = k) = false := by simpa using fun h => hk h.symm
          rw [List.eraseIdx_cons_zero, List.find?_cons, this]
        | succ q =>
          rw [List.eraseIdx_cons_succ, List.find?_cons, List.find?_cons, ih q (by simpa using hq)]
    rw [key es q hq]
theorem mdel_ok {ty : TypeId} {t2 : TypeId} (ht : P.underlying t = some (.map kt et)) (hk : P.underlying kt = some (.int .i64)) (d : D w0 (Mp b g n :: L) w)
    (kk : ∀ w', D w0 (Mp b (del g k) (if (g k).isSome then n - 1 else n) :: L) w' → K (.tuple #[]) w') : Ex P (Builtin.delete_ #[t, t2] ty #[.map (some b), .int .i64 k]) K w := by
  obtain ⟨es, clock, hb, hm⟩ := Mp.at_ d
  have hf := fnd_find (k := k) (es := es.toList) (i := 0)
  rw [← hm.get k] at hf
  cases h : fnd k es.toList 0 with
  | none =>
    rw [h] at hf
    have hg : g k = none := by rw [← hf]; rfl
    refine ⟨.tuple #[], _, ?_, kk _ (Mp.set d (es := es) (clock := clock) ?_)⟩
    · unfold Builtin.delete_
      simp only [List.getElem?_toArray, List.getElem?_cons_zero, List.getElem?_cons_succ, Sem.run_bind, run_underlying ht, Result.andThen_ok, run_getMap hb, run_checkKey hk, run_findKey hk hm.key, h, run_setMap hb, Sem.run_pure]
    · rw [hg]
      have : del g k = g := by
        funext i
        unfold del
        split
        · rename_i e; rw [e, hg]
        · rfl
      rw [this]; exact hm
  | some jv =>
    obtain ⟨j, u⟩ := jv
    rw [h] at hf
    have hg : (g k).isSome = true := by rw [← hf]; rfl
    obtain ⟨q, hq, e, he, hke, hv⟩ := fnd_some h
    have hq' : j = q := by omega
    subst hq'
    refine ⟨.tuple #[], _, ?_, kk _ (Mp.set d (es := es.eraseIdxIfInBounds j) (clock := clock) ?_)⟩
    · unfold Builtin.delete_
      simp only [List.getElem?_toArray, List.getElem?_cons_zero, List.getElem?_cons_succ, Sem.run_bind, run_underlying ht, Result.andThen_ok, run_getMap hb, run_checkKey hk, run_findKey hk hm.key, h, run_setMap hb, Sem.run_pure]
    · rw [hg, if_pos rfl]
      have := mo_del hm he
      rw [hke] at this
      simpa using this
theorem In.mp (i : In (Mp b g n) L) (d : D w0 L w) : ∃ M, D w0 (Mp b g n :: M) w := by
  obtain ⟨M, h⟩ := i.front
  exact ⟨M, h _ d.1, d.2⟩
theorem qe_lk {B : Value → WP} (ht : P.underlying t = some (.map kt et)) (hk : P.underlying kt = some (.int .i64)) {z : Value} (hz : ((P.info? et).bind (·.zero)) = some z) (i : In (Mp b g n) L) (kk : B (.tuple #[(g k).getD z, .bool (g k).isSome]) w) :
    QE (D w0 L) (fun KK => Ex P (Instr.lookup t (.map (some b)) (.int .i64 k) true) fun v => KK v) B w :=
  qe _ (fun w' d => by obtain ⟨M, d⟩ := i.mp d; exact lk_ok ht hk hz d ⟨rfl, rfl⟩) kk
theorem qe_lk1 {B : Value → WP} (ht : P.underlying t = some (.map kt et)) (hk : P.underlying kt = some (.int .i64)) {z : Value} (hz : ((P.info? et).bind (·.zero)) = some z) (i : In (Mp b g n) L) (kk : B ((g k).getD z) w) :
    QE (D w0 L) (fun KK => Ex P (Instr.lookup t (.map (some b)) (.int .i64 k) false) fun v => KK v) B w :=
  qe _ (fun w' d => by obtain ⟨M, d⟩ := i.mp d; exact lk1_ok ht hk hz d ⟨rfl, rfl⟩) kk
theorem lkm_ok (ht : P.underlying t = some (.map kt et)) (hk : P.underlying kt = some (.int .i64)) {z : Value} (hz : ((P.info? et).bind (·.zero)) = some z) (d : D w0 L w) (i : In (Mp b g n) L) (kk : K (.tuple #[(g k).getD z, .bool (g k).isSome]) w) :
    Ex P (Instr.lookup t (.map (some b)) (.int .i64 k) true) K w := by obtain ⟨M, d⟩ := i.mp d; exact lk_ok ht hk hz d kk
theorem lkm1_ok (ht : P.underlying t = some (.map kt et)) (hk : P.underlying kt = some (.int .i64)) {z : Value} (hz : ((P.info? et).bind (·.zero)) = some z) (d : D w0 L w) (i : In (Mp b g n) L) (kk : K ((g k).getD z) w) :
    Ex P (Instr.lookup t (.map (some b)) (.int .i64 k) false) K w := by obtain ⟨M, d⟩ := i.mp d; exact lk1_ok ht hk hz d kk
theorem mlenm_ok {ty : TypeId} (ht : P.underlying t = some (.map kt et)) (d : D w0 L w) (i : In (Mp b g n) L) (kk : K (.int .i64 n) w) : Ex P (Builtin.len_ #[t] ty #[.map (some b)]) K w := by obtain ⟨M, d⟩ := i.mp d; exact mlen_ok ht d kk
theorem mdelm_ok {L' : List HP} {ty : TypeId} {t2 : TypeId} (ht : P.underlying t = some (.map kt et)) (hk : P.underlying kt = some (.int .i64)) (d : D w0 L w) (r : Rp (Mp b g n) (Mp b (del g k) (if (g k).isSome then n - 1 else n)) L L')
    (kk : ∀ w', D w0 L' w' → K (.tuple #[]) w') : Ex P (Builtin.delete_ #[t, t2] ty #[.map (some b), .int .i64 k]) K w := by
  obtain ⟨M, f1, f2⟩ := r.front
  exact mdel_ok ht hk (L := M) ⟨f1 _ d.1, d.2⟩ fun w' d => kk w' ⟨f2 _ d.1, d.2⟩
theorem mupm_ok {L' : List HP} (ht : P.underlying t = some (.map kt et)) (hk : P.underlying kt = some (.int .i64)) (d : D w0 L w) (r : Rp (Mp b g n) (Mp b (upd g k v) (if (g k).isSome then n else n + 1)) L L')
    (kk : ∀ w', D w0 L' w' → K undef w') : Ex P (do Instr.mapUpdate t (.map (some b)) (.int .i64 k) v; pure undef) K w := by
  obtain ⟨M, f1, f2⟩ := r.front
  exact mup_ok ht hk (L := M) ⟨f1 _ d.1, d.2⟩ fun w' d => kk w' ⟨f2 _ d.1, d.2⟩
end
end Go.Jac
