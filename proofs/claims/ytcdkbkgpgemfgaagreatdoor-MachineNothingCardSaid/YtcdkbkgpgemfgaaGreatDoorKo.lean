/- Maps: entries deleted, held, gone through; rows cleared and copied: all that is right. -/
import Derived.Test.YtcdkbkgpgemfgaaGreatDoorKi
import Derived.Test.YtcdkbkgpgemfgaaGreatDoorSw
set_option maxRecDepth 100000
namespace Go.Jac
open Go

section
variable {AT : Nat → Nat → Value} {P : Program} {GL : Gv} {σ : Sg} {w0 w : World} {F L : List HP} {S S' : XS} {x : X} {K : Value → WP}
/-! ### Deleting -/
theorem lkM_mem {es : List (Int × X)} {k : Int} {y : X} (h : lkM es k = some y) : (k, y) ∈ es := by
  induction es with
  | nil => cases h
  | cons p r ih =>
    obtain ⟨k', z⟩ := p
    unfold lkM at h
    by_cases hk : k' = k
    · subst hk; simp only [decide_true, cond_true, Option.some.injEq] at h; subst h; simp
    · simp only [hk, decide_false, cond_false] at h; simp only [List.mem_cons]; exact .inr (ih h)
theorem lkM_none {es : List (Int × X)} {k : Int} (h : k ∉ es.map (·.1)) : lkM es k = none := by
  cases hl : lkM es k with
  | none => rfl
  | some y => exact absurd (List.mem_map.2 ⟨_, lkM_mem hl, rfl⟩) h
theorem delM_sub (es : List (Int × X)) (k : Int) : (delM es k).Sublist es := by
  induction es with
  | nil => exact List.Sublist.refl _
  | cons p r ih =>
    obtain ⟨k', z⟩ := p
    unfold delM
    by_cases hk : k' = k
    · simp only [hk, decide_true, cond_true]; exact List.sublist_cons_self _ _
    · simp only [hk, decide_false, cond_false]; exact ih.cons_cons _
theorem lkM_delM {es : List (Int × X)} (hn : (es.map (·.1)).Nodup) (k n : Int) : lkM (delM es k) n = if n = k then none else lkM es n := by
  induction es with
  | nil => simp [delM, lkM]
  | cons p r ih =>
    obtain ⟨k', z⟩ := p
    rw [List.map_cons, List.nodup_cons] at hn
    unfold delM
    by_cases hk : k' = k
    · subst hk
      simp only [decide_true, cond_true]
      by_cases h : n = k'
      · subst h; rw [if_pos rfl, lkM_none hn.1]
      · rw [if_neg h]
        unfold lkM
        have : ¬ k' = n := fun e => h e.symm
        simp only [this, decide_false, cond_false]
        cases r <;> rfl
    · simp only [hk, decide_false, cond_false]
      unfold lkM
      by_cases h : k' = n
      · subst h; simp [hk]
      · simp only [h, decide_false, cond_false]
        exact ih hn.2
theorem delM_len {es : List (Int × X)} (hn : (es.map (·.1)).Nodup) (k : Int) : (delM es k).length = if (lkM es k).isSome then es.length - 1 else es.length := by
  induction es with
  | nil => rfl
  | cons p r ih =>
    obtain ⟨k', z⟩ := p
    rw [List.map_cons, List.nodup_cons] at hn
    unfold delM lkM
    by_cases hk : k' = k
    · subst hk; simp
    · simp only [hk, decide_false, cond_false, List.length_cons, ih hn.2]
      split
      · rename_i h
        have : 0 < r.length := by
          cases r with
          | nil => simp [lkM] at h
          | cons _ _ => simp
        omega
      · rfl
theorem delete_x {ats : Array TypeId} {t t2 ty : TypeId} {m kk : X} (hats : ats.toList = [t, t2]) (r : Rep AT P w0 F σ S w) (h : xDelete P S t m kk = .ok (x, S')) : isX m = true ∧ isX kk = true ∧ ∀ vm vk, den AT σ m = some vm → den AT σ kk = some vk →
    ∀ K : Value → WP, (∀ σ' v w', σ.le σ' → Rep AT P w0 F σ' S' w' → den AT σ' x = some v → K v w') → Ex P (Builtin.delete_ ats ty #[vm, vk]) K w := by
  unfold xDelete at h
  simp only [XS.updK_eq] at h
  split at h
  · rename_i b n
    split at h
    · rename_i kt et hu
      replace h := need_ok h
      obtain ⟨hk, h⟩ := h
      have hk := isI64_ok hk
      split at h
      · rename_i es hf
        cases h
        refine ⟨rfl, rfl, fun vm vk hm hvk K k => ?_⟩
        cases den_int.1 hvk
        obtain ⟨L, d, h1, _⟩ := r.d.takeB hf
        obtain ⟨⟨hh1, hh2, s, ⟨g, e1, e2, e0, e3⟩, l⟩, kp⟩ := d
        obtain ⟨g', hg', rfl⟩ := den_mp.1 hm
        rw [e1] at hg'; cases hg'
        have d : D w0 (Mp g.ad (gm AT σ es) es.length :: L) w := ⟨⟨hh1, hh2, s, e3, l⟩, kp⟩
        have ha : ats = #[t, t2] := by apply Array.ext'; rw [hats]
        rw [ha]
        refine mdel_ok hu hk d fun w' d' => k σ _ w' (Sg.le.refl σ) ⟨h1 _ w' ?_, r.fresh⟩ (den_tup.2 ⟨[], DL.nil, rfl⟩)
        obtain ⟨⟨k1, k2, s', a, l'⟩, kp'⟩ := d'
        refine ⟨⟨k1, k2, s', ⟨g, e1, fun p hp => e2 p ((delM_sub es n).mem hp), ((delM_sub es n).map _).nodup e0, ?_⟩, l'⟩, kp'⟩
        have hg : gm AT σ (delM es n) = del (gm AT σ es) n := by
          funext i
          unfold gm del
          rw [lkM_delM e0]
          split <;> rfl
        rw [hg, delM_len e0, ← gm_some e2]
        exact a
      · cases h
    · cases h
  · cases h
/-! ### Entries that are held -/
theorem Mp.pts {b n : Nat} {g : Int → Option Value} (d : D w0 (Mp b g n :: L) w) : ∃ es clock, MpOk es.toList clock g n ∧ D w0 (pts b (.map es clock) :: L) w := by
  obtain ⟨⟨h1, h2, s, ⟨es, clock, hb, ok⟩, l⟩, k⟩ := d
  exact ⟨es, clock, ok, ⟨h1, h2, s, hb, l⟩, k⟩
theorem MpS.pts {b n s : Nat} {k : Int} {g : Int → Option Value} (d : D w0 (MpS b g n k s :: L) w) : ∃ es clock, MpOk es.toList clock g n ∧ (∃ e ∈ es.toList, kI e.key = k ∧ e.born = s) ∧ D w0 (pts b (.map es clock) :: L) w := by
  obtain ⟨⟨h1, h2, s, ⟨es, clock, hb, ok, he⟩, l⟩, k⟩ := d
  exact ⟨es, clock, ok, he, ⟨h1, h2, s, hb, l⟩, k⟩
theorem mentry_run {b n : Nat} {g : Int → Option Value} {t kt et : TypeId} {k : Int} {z : Value} (ht : P.underlying t = some (.map kt et)) (hk : P.underlying kt = some (.int .i64)) (hz : ((P.info? et).bind (·.zero)) = some z) (d : D w0 (Mp b g n :: L) w) :
    ∃ (s : Nat) (w' : World), (Instr.mapEntry t (.map (some b)) (.int .i64 k)).run P w = .ok (.tuple #[(g k).getD z, .int .i64 s]) w' ∧ D w0 (MpS b (upd g k ((g k).getD z)) (if (g k).isSome then n else n + 1) k s :: L) w' := by
  obtain ⟨es, clock, hm, d⟩ := Mp.pts d
  have hb : w.heap[b]? = some (.map es clock) := d.at_
  obtain ⟨i, hi, hzi⟩ := Option.bind_eq_some_iff.1 hz
  unfold Instr.mapEntry
  simp only [Sem.run_bind, run_underlying ht, Result.andThen_ok, run_getMap hb, run_checkKey hk, run_findKey hk hm.key]
  have hf := fnd_find (k := k) (es := es.toList) (i := 0)
  rw [← hm.get k] at hf
  cases h : fnd k es.toList 0 with
  | none =>
    rw [h] at hf
    have hg : g k = none := by rw [← hf]; rfl
    rw [hg]
    simp only [Sem.run_bind, run_zeroValue hi hzi, Result.andThen_ok, run_setMap hb, Sem.run_pure, Option.getD_none, Option.isSome_none, Bool.false_eq_true, if_false]
    refine ⟨clock, _, rfl, ?_⟩
    have := mo_push hm hg z
    refine (D.put (o' := .map (es.push { key := .int .i64 k, val := z, born := clock }) (clock + 1)) d).hd fun _ hb' => ⟨_, _, hb', by simpa using this, ⟨{ key := .int .i64 k, val := z, born := clock }, by simp, rfl, rfl⟩⟩
  | some jv =>
    obtain ⟨j, u⟩ := jv
    rw [h] at hf
    have hg : g k = some u := by rw [← hf]; rfl
    rw [hg]
    obtain ⟨q, hq, e, he, hke, hv⟩ := fnd_some h
    have hq' : j = q := by omega
    subst hq'
    have hkey := hm.key e (List.mem_of_getElem? he)
    have he' : es[j]? = some e := by simpa using he
    have hst : (Instr.keyThatStays e.key (.int .i64 k)).run P w = .ok (.int .i64 k) w := by
      rw [hkey, hke]
      unfold Instr.keyThatStays
      simp [Instr.sameBits]
    have hid : es.modify j (fun e => { e with key := .int .i64 k }) = es := by
      apply Array.ext_getElem?
      intro i
      rw [Array.getElem?_modify]
      split
      · rename_i hji
        subst hji
        rw [he']
        simp only [Option.map_some, Option.some.injEq]
        rw [← hke, ← hkey]
      · rfl
    simp only [he', Option.map_some, Option.getD_some, Sem.run_bind, hst, Result.andThen_ok, hid, run_setMap hb, Sem.run_pure, Option.isSome_some, if_true]
    refine ⟨e.born, _, rfl, ?_⟩
    have hu : upd g k u = g := by
      funext i
      unfold upd
      split
      · rename_i hik; rw [hik, hg]
      · rfl
    rw [hu]
    exact (D.put (o' := .map es clock) d).hd fun _ hb' => ⟨es, clock, hb', hm, e, List.mem_of_getElem? he, hke, rfl⟩
theorem estore_run {b n s : Nat} {g : Int → Option Value} {t : TypeId} {k : Int} {v : Value} (d : D w0 (MpS b g n k s :: L) w) :
    ∃ w' : World, (Instr.entryStore t (.map (some b)) (.int .i64 s) v).run P w = .ok () w' ∧ D w0 (Mp b (upd g k v) n :: L) w' ∧ (g k).isSome = true := by
  obtain ⟨es, clock, hm, ⟨e, he, hke, hes⟩, d⟩ := MpS.pts d
  have hb : w.heap[b]? = some (.map es clock) := d.at_
  unfold Instr.entryStore
  simp only [Sem.run_bind, run_getMap hb, Result.andThen_ok, asInt, asIntOf, Sem.run_pure]
  cases hf : es.findIdx? (fun e => (e.born : Int) == (s : Int)) with
  | none =>
    rw [Array.findIdx?_eq_none_iff] at hf
    have := hf e (by simpa using he)
    simp [hes] at this
  | some i =>
    obtain ⟨hi, hp, _⟩ := Array.findIdx?_eq_some_iff_getElem.1 hf
    have hbi : es[i].born = s := by
      have h := hp
      simp only [beq_iff_eq] at h
      exact Int.ofNat_inj.1 h
    have heq : es[i] = e := born_inj hm.bnd (by simp) he (by rw [hbi, hes])
    have hget : es.toList[i]? = some e := by rw [Array.getElem?_toList, Array.getElem?_eq_getElem hi, heq]
    dsimp only
    rw [run_setMap hb]
    refine ⟨_, rfl, ?_, (mo_get hm).2 ⟨e, he, hke⟩⟩
    have hmod := mo_mod hm hget v
    have hkey := hm.key e he
    have hid : (es.modify i fun x => { x with val := v }).toList = es.toList.modify i fun x => { x with key := .int .i64 (kI e.key), val := v } := by
      rw [Array.toList_modify]
      apply List.ext_getElem?
      intro j
      rw [List.getElem?_modify, List.getElem?_modify]
      split
      · rename_i hj
        subst hj
        rw [hget]
        show some ({ e with val := v } : MapEntry) = some { e with key := .int .i64 (kI e.key), val := v }
        rw [← hkey]
      · rfl
    rw [hke] at hmod hid
    exact (D.put (o' := .map (es.modify i fun x => { x with val := v }) clock) d).hd fun _ hb' => ⟨_, _, hb', by rw [hid]; exact hmod⟩
theorem mapEntry_x {t : TypeId} {m kk : X} (r : Rep AT P w0 F σ S w) (h : xMapEntry P S t m kk = .ok (x, S')) : isX m = true ∧ isX kk = true ∧ ∀ vm vk, den AT σ m = some vm → den AT σ kk = some vk →
    ∀ K : Value → WP, (∀ σ' v w', σ.le σ' → Rep AT P w0 F σ' S' w' → den AT σ' x = some v → K v w') → Ex P (Instr.mapEntry t vm vk) K w := by
  unfold xMapEntry at h
  split at h
  · rename_i kt et hu
    replace h := need_ok h
    obtain ⟨hk, h⟩ := h
    have hk := isI64_ok hk
    split at h
    · rename_i b n
      split at h
      · rename_i es hf
        split at h
        · rename_i z hz
          rw [XS.updK_eq, natK_eq] at h
          cases h
          refine ⟨rfl, rfl, fun vm vk hm hvk K k => ?_⟩
          cases den_int.1 hvk
          obtain ⟨L, d, h1, hL0⟩ := r.d.takeB hf
          obtain ⟨⟨hh1, hh2, s, ⟨g, e1, e2, e0, e3⟩, l⟩, kp⟩ := d
          obtain ⟨g', hg', rfl⟩ := den_mp.1 hm
          rw [e1] at hg'; cases hg'
          have d : D w0 (Mp g.ad (gm AT σ es) es.length :: L) w := ⟨⟨hh1, hh2, s, e3, l⟩, kp⟩
          obtain ⟨st, w', hrun, d'⟩ := mentry_run (k := n) hu hk hz d
          have hv : den AT σ ((lkM es n).getD (ofV z)) = some ((gm AT σ es n).getD z) := by
            unfold gm
            cases hl : lkM es n with
            | none => exact den_ofV z
            | some y =>
              obtain ⟨u, hu'⟩ := e2 (n, y) (lkM_mem hl)
              simp only [Option.getD_some, Option.bind_some]
              rw [show den AT σ y = some u from hu']
              rfl
          refine ⟨_, w', hrun, k (σ.add S.nx ⟨st, 0, 0, none⟩) _ w' r.le ?_ (den_tup.2 ⟨[_, _], DL.cons (den_mono r.le hv) (DL.cons (den_stp.2 ⟨_, Sg.add_at _ _ _, rfl⟩) DL.nil), rfl⟩)⟩
          have r1 : D w0 ((updB S.bs b (.ms (upM es n ((lkM es n).getD (ofV z))) n S.nx)).map (partB AT P (σ.add S.nx ⟨st, 0, 0, none⟩)) ++ F) w' := by
            obtain ⟨L1, L2, hsp, hup, hdl⟩ := find_split hf
            rw [hup, List.map_append, List.map_cons, List.append_assoc, List.cons_append]
            have hL : L = L1.map (partB AT P σ) ++ (L2.map (partB AT P σ) ++ F) := by
              rw [hL0, hdl, List.map_append, List.append_assoc]
            have key : D w0 (partB AT P (σ.add S.nx ⟨st, 0, 0, none⟩) (b, .ms (upM es n ((lkM es n).getD (ofV z))) n S.nx) :: (L1.map (partB AT P (σ.add S.nx ⟨st, 0, 0, none⟩)) ++ (L2.map (partB AT P (σ.add S.nx ⟨st, 0, 0, none⟩)) ++ F))) w' := by
              obtain ⟨⟨k1, k2, s', a, l'⟩, kp'⟩ := d'
              refine ⟨⟨k1, k2, s', ⟨g, _, r.le _ _ e1, Sg.add_at _ _ _, ?_, upM_nd e0, ?_⟩, ?_⟩, kp'⟩
              · intro p hp
                rcases upM_mem p hp with h | h
                · obtain ⟨v, hv'⟩ := e2 p h; exact ⟨v, den_mono r.le hv'⟩
                · rw [h]; exact ⟨_, den_mono r.le hv⟩
              · rw [gm_mono r.le (σ := σ) (fun p hp => by
                  rcases upM_mem p hp with h | h
                  · exact e2 p h
                  · rw [h]; exact ⟨_, hv⟩), gm_upM hv, upM_len, ← gm_some e2]
                exact a
              · rw [hL, ← List.append_assoc, ← List.map_append] at l'
                rw [← List.append_assoc, ← List.map_append]
                exact Sat.mapm (partB_mono r.le) _ l'
            exact key.perm List.perm_middle.symm
          exact ⟨r1, fun i hi => by
            have hi : S.nx + 1 ≤ i := hi
            unfold Sg.add
            rw [if_neg (by omega)]
            exact r.fresh i (by omega)⟩
        · cases h
      · cases h
    · cases h
  · cases h
theorem entryStore_x {t : TypeId} {m s y : X} (r : Rep AT P w0 F σ S w) (h : xEntryStore S m s y = .ok (x, S')) : isX m = true ∧ isX s = true ∧ isX y = true ∧ x = .un ∧ ∀ vm vs vy, den AT σ m = some vm → den AT σ s = some vs → den AT σ y = some vy →
    ∀ K : Value → WP, (∀ w', Rep AT P w0 F σ S' w' → K undef w') → Ex P (do Instr.entryStore t vm vs vy; pure undef) K w := by
  unfold xEntryStore at h
  simp only [XS.updK_eq] at h
  split at h
  · rename_i b q
    split at h
    · rename_i es n q' hf
      replace h := need_ok h
      obtain ⟨hq, h⟩ := h
      replace h := need_ok h
      obtain ⟨hx, h⟩ := h
      cases h
      have hq := beq_eq hq
      subst hq
      refine ⟨rfl, rfl, hx, rfl, fun vm vs vy hm hs hy K k => ?_⟩
      obtain ⟨L, d, h1, _⟩ := r.d.takeB hf
      obtain ⟨⟨hh1, hh2, sp, ⟨g, gs, e1, e1', e2, e0, e3⟩, l⟩, kp⟩ := d
      obtain ⟨g', hg', rfl⟩ := den_mp.1 hm
      rw [e1] at hg'; cases hg'
      obtain ⟨g', hg', rfl⟩ := den_stp.1 hs
      rw [e1'] at hg'; cases hg'
      have d : D w0 (MpS g.ad (gm AT σ es) es.length n gs.ad :: L) w := ⟨⟨hh1, hh2, sp, e3, l⟩, kp⟩
      obtain ⟨w', hrun, d', hsome⟩ := estore_run (P := P) (t := t) (v := vy) d
      refine ⟨undef, w', by rw [Sem.run_bind, hrun]; rfl, k w' ⟨h1 _ w' ?_, r.fresh⟩⟩
      obtain ⟨⟨k1, k2, s', a, l'⟩, kp'⟩ := d'
      refine ⟨⟨k1, k2, s', ⟨g, e1, fun p hp => ?_, upM_nd e0, ?_⟩, l'⟩, kp'⟩
      · rcases upM_mem p hp with h | h
        · exact e2 p h
        · exact ⟨vy, by rw [h]; exact hy⟩
      · rw [gm_upM hy, upM_len, ← gm_some e2, hsome, if_pos rfl]
        exact a
    · cases h
  · cases h
end
end Go.Jac
