/- Objects: whatever is called, all that is there is held: the walk. -/
import Derived.Test.YtbbenmflickapaaDoorOt
import Derived.Test.YtbbenmflickapaaDoorOq
import Derived.Test.YtbbenmflickapaaDoorOl
set_option maxRecDepth 100000
set_option maxHeartbeats 16000000
namespace Go.Proofs.YtbbenmflickapaaDoor
open Go Go.Jac
/-- A call. -/
structure OpE where
  k : Int
  a : Int
  b : Int
  c : Int
  sv : Value
  l : List Int
def oc (x : OpE) : List Value := [.int .i64 x.k, .int .i64 x.a, .int .i64 x.b, .int .i64 x.c, x.sv]
theorem sees_old {w0 : World} {sv : Value} {l : List Int} (h : OldL w0 1 nc sv l) : SeesA w0 (Old w0) sv l := fun L w d => by
  rcases h with ⟨rfl, rfl⟩ | ⟨a, c, rfl, hx⟩
  · exact ⟨none, 0, rfl, fun h => absurd rfl h⟩
  · refine ⟨some a, c, rfl, fun _ => ⟨a, rfl, fun j x hj => ?_⟩⟩
    have hlt := (List.getElem?_eq_some_iff.1 hj).1
    have he := (List.getElem?_eq_some_iff.1 hj).2
    have := hx j hlt 0 (.int .i64 x) (by rw [he]; rfl)
    rw [Nat.mul_one, Addr.add_zero] at this
    exact d.oldc (by simp) this
def emap (E : List Int) : Int → Option Value := fun k => if k ∈ E then some (.bool true) else none
theorem emap_snoc {E : List Int} {x : Int} : emap (E ++ [x]) = upd (emap E) x (.bool true) := by
  funext k
  unfold emap upd
  by_cases e : k = x
  · subst e; simp
  · rw [if_neg e]
    have : k ∈ E ++ [x] ↔ k ∈ E := by simp [e]
    simp only [this]
/-- The peers of those in T. -/
def pmap (M : List Hd) (T : List Int) : Int → Option Value := fun k => if k ∈ T then (hfind M k).map fun x => .int .i64 x.peer else none
theorem pmap_snoc {M : List Hd} {T : List Int} {k : Int} {x : Hd} (hx : hfind M k = some x) : pmap M (T ++ [k]) = upd (pmap M T) k (.int .i64 x.peer) := by
  funext a
  unfold pmap upd
  by_cases e : a = k
  · subst e; rw [if_pos rfl, if_pos (by simp), hx]; rfl
  · rw [if_neg e]
    have : a ∈ T ++ [k] ↔ a ∈ T := by simp [e]
    simp only [this]
theorem swS_len {S : List Hd} {id : Int} (hn : Nd S) : Nd (swS S id).1 ∧ (swS S id).2.2.length + 2 * (swS S id).1.length ≤ 2 * S.length := by
  cases hx : hfind S id with
  | none => rw [swS_none hx]; exact ⟨hn, by simp⟩
  | some x =>
    cases hh : heldB x with
    | true => rw [swS_held hx hh]; exact ⟨hn, by simp⟩
    | false =>
      rw [swS_end hx hh]
      have h1 := peerF_nd (p := x.peer) (hn.rm id)
      have h2 := (peerF_bt (p := x.peer) (hn.rm id)).2
      have h3 := bags_nd x.bag ((peerF (rmH id S) x.peer).1, []) h1.1
      have h4 := rm_len hn hx
      refine ⟨h3.1, ?_⟩
      have h5 := h3.2
      simp only at h5 ⊢
      rw [h5, h1.2]
      simp only [List.length_cons]
      omega
theorem swN_len : ∀ (n : Nat) {S : List Hd} {wk : List Int} {out : List Ev} {M' : List Hd} {out' : List Ev}, Nd S → swN n S wk out = some (M', out') → out'.length + 2 * M'.length ≤ out.length + 2 * S.length
  | 0, _, _, _, _, _, _, hs => by cases hs
  | n + 1, S, [], out, M', out', _, hs => by
    rw [swN_end] at hs
    cases hs
    omega
  | n + 1, S, id :: wk, out, M', out', hn, hs => by
    rw [swN_step] at hs
    have h1 := swS_len (id := id) hn
    have h2 := swN_len n h1.1 hs
    rw [List.length_append] at h2
    omega
theorem ends_cons (o : Int) (e : Bool) (s : Int) (l : List Ev) : ends (⟨o, e, s⟩ :: l) = if e then o :: ends l else ends l := by
  cases e <;> simp [ends]
section
variable {w0 w : World} {L : List HP} {K : Value → WP} {lv : Value} {S : List OpE}
theorem held_ok' (hN : Nmd w0) (ho : OldL w0 5 oc lv S) (hl : ∀ x ∈ S, OldL w0 1 nc x.sv x.l) (d : D w0 [Old w0] w) (k : ∀ w', D w0 [Old w0] w' → K (.bool true) w') :
    Cl pg 6 #[lv] K w := by
  refine V.jacinthlaw18_ObjectHeld_ok ?_
  unfold V.jacinthlaw18_ObjectHeld
  have hm : Old w0 ∈ [Old w0] := by simp
  have aw : ∀ (w : World), D w0 [Old w0] w → Cl pg 8 #[] (fun v w => K v w) w := fun w d => awake_ok hN hm d k
  refine fn10 (fun _ _ => rfl) (New_ok (by omega) d fun b w d => ?_)
  repeat (simp +decide only [SEM])
  refine ho.len ?_
  repeat (simp +decide only [SEM])
  refine ⟨fun h1 => fn00 (fun _ _ => rfl) (aw w d.tail), fun h1 => ?_⟩
  refine mmk_ok d fun e w d => ?_
  refine ho.len ?_
  have hS : S.length ≤ 100 := by omega
  have e0 : emap [] = fun _ => none := by funext k; simp [emap]
  rw [← e0] at d
  refine ⟨fun vs w' => ∃ (last : Int) (i : Nat) (u : Value) (M : List Hd) (E : List Int), vs = [.int .i64 last, u, .int .i64 i] ∧ i ≤ S.length ∧ HI i last M E ∧ D w0 [Ob b last 100 M, Mp e (emap E) E.length, Old w0] w', fun vs _ => match vs with | [_, _, .int _ i] => S.length - i.toNat | _ => 0, ⟨0, 0, _, [], [], rfl, by omega, HI.nil, d.swap⟩, ?_⟩
  clear d
  rintro _ w ⟨last, i, u, M, E, rfl, hi, hI, d⟩ _
  simp only [UN]
  repeat (simp +decide only [SEM])
  refine ⟨fun hlt => ?_, fun hge => fn00 (fun _ _ => rfl) (aw w d.tail.tail)⟩
  have hlt' : i < S.length := by omega
  refine ho.ia (by omega) hlt fun ad had => ?_
  simp only [Int.toNat_natCast] at had
  have hlx := hl S[i] (List.getElem_mem hlt')
  have hiw : IntKind.i64.wrap ((i : Int) + 1) = ((i + 1 : Nat) : Int) := by rw [w64 (by omega) (by omega)]; simp
  have hi99 : i ≤ 99 := by omega
  refine old_ldN (oc S[i]) d (by simp) rfl had ?_
  generalize S[i] = x at hlx had
  clear had
  obtain ⟨ck, ca, cb, cc, csv, cl⟩ := x
  obtain ⟨q, qc, hsv⟩ := hlx.shape
  simp only at hsv hlx
  subst hsv
  unfold oc
  simp only
  repeat (first | (simp +decide only [SEM]) | (apply ldm d; (focus ((repeat (first | exact .h _ | refine .t _ _ ?_)); done)); (focus rfl)) | (refine d_new _ d fun bn w d => ?_) | (apply swm d; (focus ((repeat (first | exact .h _ | apply Rp.t)); done)); (focus rfl); (focus rfl); (focus exact ones rfl); intro w d; simp only [SPL] at d))
  generalize bn = b7 at d ⊢
  refine ⟨fun h2 => fn00 (fun _ _ => rfl) (aw w d.tail.tail.tail), fun h2 => ?_⟩
  have hxl : cl.length ≤ 20 := by omega
  refine mmk_ok d fun p w d => ?_
  have hlen : M.length ≤ 100 := by have := hI.cnt; have := hI.la; omega
  refine fn10 (fun _ _ => rfl) (IDs_ok (by omega) (D.sel [2] d) fun T tv w hTn hTu hT d => ?_)
  have hTl : T.length ≤ 100 := by
    have := nodup_len (A := T) (B := M.map (·.id)) hTn fun y hy => by
      obtain ⟨z, hz⟩ := Option.ne_none_iff_exists'.1 ((hT y).1 hy)
      exact List.mem_map.2 ⟨z, (hfind_id hz).2, (hfind_id hz).1⟩
    rw [List.length_map] at this
    omega
  refine len_rw d ?_
  have ep : (pmap M [] : Int → Option Value) = fun _ => none := by funext k; simp [pmap]
  rw [← ep] at d
  refine ⟨fun vs w' => ∃ (j n : Nat), vs = [.int .i64 j] ∧ j ≤ T.length ∧ D w0 [Mp p (pmap M (T.take j)) n, Rw 3 1 tv T.length (T.flatMap nI), Ob b last 100 M, cel b7 52 [.int .i64 ck, .int .i64 ca, .int .i64 cb, .int .i64 cc, .slice q cl.length qc], Mp e (emap E) E.length, Old w0] w', fun vs _ => match vs with | [.int _ i] => T.length - i.toNat | _ => 0, ⟨0, 0, rfl, by omega, D.sel [2, 0, 1] d⟩, ?_⟩
  clear d
  rintro _ w ⟨j, n, rfl, hj, d⟩ _
  simp only [UN]
  repeat (simp +decide only [SEM])
  refine ⟨fun hltj => ?_, fun hgej => ?_⟩
  · have hltj' : j < T.length := by omega
    refine rw_el1 (S := T) (f := nI) d (.t _ _ (.h _)) nI_len hltj' (v := .int .i64 T[j]) rfl ?_
    have e1 : T.take (j + 1) = T.take j ++ [T[j]] := List.take_succ_eq_append_getElem hltj'
    have hTj := (hT T[j]).1 (List.getElem_mem hltj')
    generalize T[j] = id at *
    obtain ⟨z, hz⟩ := Option.ne_none_iff_exists'.1 hTj
    refine fn20 (fun _ _ => rfl) (Info_ok hI.nd hz (D.sel [2] d) fun w d => ?_)
    repeat (first | (simp +decide only [SEM]) | (apply ldm d; (focus ((repeat (first | exact .h _ | refine .t _ _ ?_)); done)); (focus rfl)) | (refine d_new _ d fun bn w d => ?_) | (apply swm d; (focus ((repeat (first | exact .h _ | apply Rp.t)); done)); (focus rfl); (focus rfl); (focus exact ones rfl); intro w d; simp only [SPL] at d))
    refine mupm_ok Tryd.underlying53 Tryd.underlying3 d (.t _ _ _ (.t _ _ _ (.h _))) fun w d => ?_
    rw [← pmap_snoc hz, ← e1] at d
    repeat (simp +decide only [SEM])
    rw [w64 (by omega) (by omega)]
    exact ⟨⟨j + 1, _, by simp, by omega, D.sel [1, 2, 0] d.tail⟩, by omega⟩
  · obtain rfl : j = T.length := by omega
    rw [List.take_length] at d
    intro K' hK
    have fin : ∀ (last' : Int) (M' : List Hd) (out : List Ev) (sv : Value) (w : World), HI (i + 1) last' M' (E ++ ends out) → out.length ≤ 1000 → (∀ e ∈ out, hfind M e.o ≠ none) → (ends out).Nodup → (∀ e ∈ ends out, e ∉ E) → (∀ e ∈ ends out, ∃ x, hfind M e = some x ∧ ∀ p, hfind M' x.peer = some p → p.peer = 0 ∧ b4 p.shows) →
        D w0 [Rw 36 3 sv out.length (out.flatMap evc), Ob b last' 100 M', Mp e (emap E) E.length, Mp p (pmap M T) n, Old w0] w → K' [.int .i64 last', sv] w := by
      intro last' M' out sv w hI' hol hev hnd hdj hpe d
      refine hK _ _ ?_
      intro _
      simp only [UN]
      clear hK
      refine len_rw d ?_
      refine ⟨fun vs w' => ∃ (u : Value) (j : Nat), vs = [u, .int .i64 j] ∧ j ≤ out.length ∧ D w0 [Rw 36 3 sv out.length (out.flatMap evc), Ob b last' 100 M', Mp e (emap (E ++ ends (out.take j))) (E ++ ends (out.take j)).length, Mp p (pmap M T) n, Old w0] w', fun vs _ => match vs with | [_, .int _ i] => out.length - i.toNat | _ => 0, ⟨_, 0, rfl, by omega, by simpa [ends] using d⟩, ?_⟩
      clear d
      rintro _ w ⟨u, j, rfl, hj, d⟩ _
      simp only [UN]
      repeat (simp +decide only [SEM])
      refine ⟨fun hltj => ?_, fun hgej => ?_⟩
      · have hltj' : j < out.length := by omega
        refine rw_elN (S := out) (f := evc) d (.h _) (fun _ => rfl) hltj' ?_
        have hjw : IntKind.i64.wrap ((j : Int) + 1) = ((j + 1 : Nat) : Int) := by rw [w64 (by omega) (by omega)]; simp
        have e1 : out.take (j + 1) = out.take j ++ [out[j]] := List.take_succ_eq_append_getElem hltj'
        have e2 : out = out.take j ++ out[j] :: out.drop (j + 1) := by rw [← List.drop_eq_getElem_cons hltj', List.take_append_drop]
        have hmem : out[j] ∈ out := List.getElem_mem hltj'
        generalize out[j] = ev at *
        obtain ⟨eo, ee, es⟩ := ev
        have e3 : ends out = ends (out.take j) ++ ends (⟨eo, ee, es⟩ :: out.drop (j + 1)) := by
          rw [← ends_app, ← e2]
        have e4 : ends (out.take (j + 1)) = ends (out.take j) ++ ends [⟨eo, ee, es⟩] := by rw [e1, ends_app]
        obtain ⟨z0, hz0⟩ := Option.ne_none_iff_exists'.1 (hev _ hmem)
        have hz0 : hfind M eo = some z0 := hz0
        have hpm : pmap M T eo = some (.int .i64 z0.peer) := by
          unfold pmap
          rw [if_pos ((hT eo).2 (by rw [hz0]; simp)), hz0]; rfl
        have hevc : evc ⟨eo, ee, es⟩ = [.int .i64 eo, .bool ee, .int .i64 es] := rfl
        rw [hevc]
        repeat (first | (simp +decide only [SEM]) | (apply ldm d; (focus ((repeat (first | exact .h _ | refine .t _ _ ?_)); done)); (focus rfl)) | (refine d_new _ d fun bn w d => ?_) | (apply swm d; (focus ((repeat (first | exact .h _ | apply Rp.t)); done)); (focus rfl); (focus rfl); (focus exact ones rfl); intro w d; simp only [SPL] at d))
        refine lkm_ok Tryd.underlying53 Tryd.underlying3 (z := .int .i64 0) (by kernel_rfl) d (.t _ _ (.t _ _ (.t _ _ (.t _ _ (.h _))))) ?_
        rw [hpm]
        simp only [Option.getD_some, Option.isSome_some]
        repeat (first | (simp +decide only [SEM]) | (apply ldm d; (focus ((repeat (first | exact .h _ | refine .t _ _ ?_)); done)); (focus rfl)))
        have next : ∀ w', D w0 [Rw 36 3 sv out.length (out.flatMap evc), Ob b last' 100 M', Mp e (emap (E ++ ends (out.take (j + 1)))) (E ++ ends (out.take (j + 1))).length, Mp p (pmap M T) n, Old w0] w' →
            (∃ (u' : Value) (j' : Nat), [u, Value.int .i64 ((j + 1 : Nat) : Int)] = [u', .int .i64 j'] ∧ j' ≤ out.length ∧ D w0 [Rw 36 3 sv out.length (out.flatMap evc), Ob b last' 100 M', Mp e (emap (E ++ ends (out.take j'))) (E ++ ends (out.take j')).length, Mp p (pmap M T) n, Old w0] w') ∧ out.length - ((j + 1 : Nat) : Int).toNat < out.length - (j : Int).toNat :=
          fun w' d' => ⟨⟨u, j + 1, rfl, by omega, d'⟩, by omega⟩
        cases ee with
        | false =>
          have e5 : ends (out.take (j + 1)) = ends (out.take j) := by rw [e4]; simp [ends]
          rw [e5] at next
          repeat (simp +decide only [SEM])
          rw [hjw]
          exact next w d.tail
        | true =>
          have e5 : ends (out.take (j + 1)) = ends (out.take j) ++ [eo] := by rw [e4]; simp [ends]
          have hin : eo ∈ ends out := by rw [e3, ends_cons]; simp
          have hnE : eo ∉ E ++ ends (out.take j) := by
            rw [List.mem_append]
            rintro (h | h)
            · exact hdj eo hin h
            · rw [e3, ends_cons, if_pos rfl, List.nodup_append] at hnd
              exact hnd.2.2 eo h eo (by simp) rfl
          have hem : emap (E ++ ends (out.take j)) eo = none := if_neg hnE
          repeat (first | (simp +decide only [SEM]) | (apply ldm d; (focus ((repeat (first | exact .h _ | refine .t _ _ ?_)); done)); (focus rfl)))
          refine lkm1_ok Tryd.underlying49 Tryd.underlying3 (z := .bool false) (by kernel_rfl) d (.t _ _ (.t _ _ (.t _ _ (.h _)))) ?_
          rw [hem]
          simp only [Option.getD_none]
          repeat (first | (simp +decide only [SEM]) | (apply ldm d; (focus ((repeat (first | exact .h _ | refine .t _ _ ?_)); done)); (focus rfl)))
          refine mupm_ok Tryd.underlying49 Tryd.underlying3 d (.t _ _ _ (.t _ _ _ (.t _ _ _ (.h _)))) fun w d => ?_
          rw [hem, ← emap_snoc, List.append_assoc, ← e5] at d
          have elen : (E ++ ends (out.take (j + 1))).length = (E ++ ends (out.take j)).length + 1 := by rw [e5]; simp; omega
          have d : D w0 (cel bn 36 [.int .i64 eo, .bool true, .int .i64 es] :: Rw 36 3 sv out.length (out.flatMap evc) :: Ob b last' 100 M' :: Mp e (emap (E ++ ends (out.take (j + 1)))) (E ++ ends (out.take (j + 1))).length :: Mp p (pmap M T) n :: [Old w0]) w := by
            rw [elen]; exact d
          repeat (first | (simp +decide only [SEM]) | (apply ldm d; (focus ((repeat (first | exact .h _ | refine .t _ _ ?_)); done)); (focus rfl)))
          refine lkm1_ok Tryd.underlying53 Tryd.underlying3 (z := .int .i64 0) (by kernel_rfl) d (.t _ _ (.t _ _ (.t _ _ (.t _ _ (.h _))))) ?_
          rw [hpm]
          simp only [Option.getD_some]
          obtain ⟨x1, hx1, hx2⟩ := hpe eo hin
          rw [hz0] at hx1
          obtain rfl := Option.some.inj hx1
          cases hq : hfind M' z0.peer with
          | none =>
            refine fn20 (fun _ _ => rfl) (Info_no hq (D.sel [2] d) fun w d => ?_)
            repeat (first | (simp +decide only [SEM]) | (refine d_new _ d fun bn w d => ?_) | (apply swm d; (focus ((repeat (first | exact .h _ | apply Rp.t)); done)); (focus rfl); (focus rfl); (focus exact ones rfl); intro w d; simp only [SPL] at d))
            rw [hjw]
            exact next w (D.sel [0, 2] d).tail.tail.swap
          | some q =>
            obtain ⟨hq1, hq2⟩ := hx2 q hq
            refine fn20 (fun _ _ => rfl) (Info_ok hI'.nd hq (D.sel [2] d) fun w d => ?_)
            rw [hq1]
            repeat (first | (simp +decide only [SEM]) | (apply ldm d; (focus ((repeat (first | exact .h _ | refine .t _ _ ?_)); done)); (focus rfl)) | (refine d_new _ d fun bn w d => ?_) | (apply swm d; (focus ((repeat (first | exact .h _ | apply Rp.t)); done)); (focus rfl); (focus rfl); (focus exact ones rfl); intro w d; simp only [SPL] at d))
            refine fn20 (fun _ _ => rfl) (V.signal_Set_Meets_ok ?_)
            unfold V.signal_Set_Meets
            repeat (simp +decide only [SEM])
            refine ⟨fun h => absurd h hq2, fun _ => ?_⟩
            skip
            rw [hjw]
            exact next w (D.sel [0, 2] d).tail.tail.swap
      · obtain rfl : j = out.length := by omega
        rw [List.take_length] at d
        have hlen' : M'.length ≤ 101 := by have := hI'.cnt; have := hI'.la; omega
        refine fn10 (fun _ _ => rfl) (IDs_ok (by omega) (D.sel [1] d) fun T2 tv2 w hT2n hT2u hT2 d => ?_)
        have hT2l : T2.length ≤ 101 := by
          have := nodup_len (A := T2) (B := M'.map (·.id)) hT2n fun y hy => by
            obtain ⟨z, hz⟩ := Option.ne_none_iff_exists'.1 ((hT2 y).1 hy)
            exact List.mem_map.2 ⟨z, (hfind_id hz).2, (hfind_id hz).1⟩
          rw [List.length_map] at this
          omega
        refine len_rw d ?_
        refine ⟨fun vs w' => ∃ (u : Value) (j : Nat), vs = [u, .int .i64 j] ∧ j ≤ T2.length ∧ D w0 [Rw 3 1 tv2 T2.length (T2.flatMap nI), Ob b last' 100 M', Rw 36 3 sv out.length (out.flatMap evc), Mp e (emap (E ++ ends out)) (E ++ ends out).length, Mp p (pmap M T) n, Old w0] w', fun vs _ => match vs with | [_, .int _ i] => T2.length - i.toNat | _ => 0, ⟨_, 0, rfl, by omega, d⟩, ?_⟩
        clear d
        rintro _ w ⟨u, j, rfl, hj, d⟩ _
        simp only [UN]
        repeat (simp +decide only [SEM])
        refine ⟨fun hltj => ?_, fun hgej => ?_⟩
        · have hltj' : j < T2.length := by omega
          refine rw_el1 (S := T2) (f := nI) d (.h _) nI_len hltj' (v := .int .i64 T2[j]) rfl ?_
          have hTj := (hT2 T2[j]).1 (List.getElem_mem hltj')
          generalize T2[j] = id at *
          obtain ⟨z, hz⟩ := Option.ne_none_iff_exists'.1 hTj
          have hzE : emap (E ++ ends out) id = none := if_neg fun h => by
            have := (hI'.en.2 id h).1
            rw [hz] at this; cases this
          have hb := hI'.bnd id z hz
          have hc := hI'.car hz
          have hh := hI'.held id z hz
          have hs1 : IntKind.i64.wrap (z.refs + z.pins) = z.refs + z.pins := w64 (by omega) (by omega)
          have hs2 : IntKind.i64.wrap (z.refs + z.pins + z.car) = z.refs + z.pins + z.car := w64 (by omega) (by omega)
          refine fn20 (fun _ _ => rfl) (Info_ok hI'.nd hz (D.sel [1] d) fun w d => ?_)
          repeat (first | (simp +decide only [SEM]) | (refine d_new _ d fun bn w d => ?_) | (apply swm d; (focus ((repeat (first | exact .h _ | apply Rp.t)); done)); (focus rfl); (focus rfl); (focus exact ones rfl); intro w d; simp only [SPL] at d))
          refine lkm1_ok Tryd.underlying49 Tryd.underlying3 (z := .bool false) (by kernel_rfl) d (.t _ _ (.t _ _ (.t _ _ (.t _ _ (.h _))))) ?_
          rw [hzE]
          simp only [Option.getD_none]
          repeat (first | (simp +decide only [SEM]) | (apply ldm d; (focus ((repeat (first | exact .h _ | refine .t _ _ ?_)); done)); (focus rfl)))
          rw [hs1, hs2]
          refine ⟨fun _ => ?_, fun h => absurd h (by omega)⟩
          repeat (first | (simp +decide only [SEM]) | (apply ldm d; (focus ((repeat (first | exact .h _ | refine .t _ _ ?_)); done)); (focus rfl)))
          refine ⟨fun _ => ?_, fun h => absurd h (by omega)⟩
          repeat (first | (simp +decide only [SEM]) | (apply ldm d; (focus ((repeat (first | exact .h _ | refine .t _ _ ?_)); done)); (focus rfl)))
          refine ⟨fun h => absurd h (by omega), fun _ => ?_⟩
          skip
          rw [w64 (by omega) (by omega)]
          exact ⟨⟨u, j + 1, by simp, by omega, d.tail.swap⟩, by omega⟩
        · refine fn10 (fun _ _ => rfl) (Count_ok (D.sel [1] d) fun w d => ?_)
          refine mlenm_ok Tryd.underlying49 d (.t _ _ (.t _ _ (.t _ _ (.h _)))) ?_
          repeat (simp +decide only [SEM])
          have hcnt := hI'.cnt
          rw [show IntKind.i64.wrap (last' - ((E ++ ends out).length : Int)) = (M'.length : Int) from by rw [w64 (by omega) (by omega)]; omega]
          repeat (simp +decide only [SEM])
          rw [hiw]
          exact ⟨⟨last', i + 1, u, M', E ++ ends out, rfl, by omega, hI', (D.sel [1, 2, 4] d).tail.tail.tail⟩, by omega⟩
    clear hK
    have fin0 : ∀ (last' : Int) (M' : List Hd) (w : World), HI (i + 1) last' M' E → D w0 [Ob b last' 100 M', Mp e (emap E) E.length, Mp p (pmap M T) n, Old w0] w → K' [.int .i64 last', .slice none 0 0] w := fun last' M' w h d =>
      fin last' M' [] _ w (by simpa [ends] using h) (by simp) (by simp) (by simp [ends]) (by simp [ends]) (by simp [ends]) ⟨Rw.nil _ _ d.1, d.2⟩
    have hia := hI.la
    have hcM := hI.cnt
    have hsees := sees_old hlx
    have hbb := hI.bb
    have hi100 : i ≤ 100 := by omega
    repeat (first | (simp +decide only [SEM]) | (apply ldm d; (focus ((repeat (first | exact .h _ | refine .t _ _ ?_)); done)); (focus rfl)))
    refine ⟨fun hk => ?_, fun hk => ?_⟩
    · repeat (apply ldm d; (focus ((repeat (first | exact .h _ | refine .t _ _ ?_)); done)); (focus rfl))
      have d : D w0 [Ob b last 100 M, Mp p (pmap M T) n, Rw 3 1 tv T.length (T.flatMap nI), cel b7 52 [.int .i64 ck, .int .i64 ca, .int .i64 cb, .int .i64 cc, .slice q cl.length qc], Mp e (emap E) E.length, Old w0] w := D.sel [2] d
      have hm2 : Old w0 ∈ [Mp p (pmap M T) n, Rw 3 1 tv T.length (T.flatMap nI), cel b7 52 [.int .i64 ck, .int .i64 ca, .int .i64 cb, .int .i64 cc, .slice q cl.length qc], Mp e (emap E) E.length, Old w0] := by simp
      by_cases hkd : 1 ≤ ca ∧ ca < 12
      · refine fn20 (fun _ _ => rfl) (Make_ok hN hm2 hkd (by omega) (by omega) (hI.make (x := ⟨last + 1, ca, 0, 1, 0, 0, 0, 0, false, .slice none 0 0, [], 0⟩) rfl rfl ⟨rfl, rfl, rfl, rfl⟩).1 d fun c w d => ?_)
        repeat (simp +decide only [SEM])
        rw [show IntKind.i64.wrap (last + 1) = last + 1 from w64 (by omega) (by omega)]
        exact fin0 (last + 1) _ w (hI.make rfl rfl ⟨rfl, rfl, rfl, rfl⟩).2 (D.sel [2, 3, 0, 4, 1] d).tail.tail
      · refine fn20 (fun _ _ => rfl) (Make_no hN (List.mem_cons_of_mem _ hm2) hkd d fun w d => ?_)
        repeat (simp +decide only [SEM])
        exact fin0 last M w hI.late (D.sel [2, 3, 0, 4, 1] d).tail.tail
    skip
    refine ⟨fun hk => ?_, fun hk => ?_⟩
    · repeat (first | (simp +decide only [SEM]) | (apply ldm d; (focus ((repeat (first | exact .h _ | refine .t _ _ ?_)); done)); (focus rfl)))
      refine fn30 (fun _ _ => rfl) (Pair_any hI.nd (D.sel [2] d) (fun v w d => ?_) fun x y hx hy hab hpx hpy w d => ?_)
      · exact fin0 last M w hI.late (D.sel [2, 3, 0, 4, 1] d).tail.tail
      · exact fin0 last _ w (hI.pair hx hy hab hpx hpy) (D.sel [2, 3, 0, 4, 1] d).tail.tail
    skip
    refine ⟨fun hk => ?_, fun hk => ?_⟩
    · repeat (apply ldm d; (focus ((repeat (first | exact .h _ | refine .t _ _ ?_)); done)); (focus rfl))
      cases hx : hfind M ca with
      | none => exact fn20 (fun _ _ => rfl) (Ref_no hx (D.sel [2] d) fun w d => fin0 last M w hI.late (D.sel [2, 3, 0, 4, 1] d).tail.tail)
      | some x => exact fn20 (fun _ _ => rfl) (Ref_ok hI.nd hx (D.sel [2] d) fun w d => fin0 last _ w (hI.ref hi100 hx) (D.sel [2, 3, 0, 4, 1] d).tail.tail)
    skip
    refine ⟨fun hk => ?_, fun hk => ?_⟩
    · repeat (apply ldm d; (focus ((repeat (first | exact .h _ | refine .t _ _ ?_)); done)); (focus rfl))
      refine fn20 (fun _ _ => rfl) (Unref_ok hI.nd hsees (by omega) (by omega) (by omega) (D.sel [5, 2] d) (fun h w d => ?_) (fun h w d => ?_) fun hall n M' out sv' w hn' hs d => ?_)
      · repeat (simp +decide only [SEM])
        exact fin0 last M w hI.late (D.sel [3, 4, 1, 5, 2, 0] d).tail.tail
      · repeat (simp +decide only [SEM])
        exact fin0 last M w hI.late (D.sel [3, 4, 1, 5, 2, 0] d).tail.tail
      · repeat (simp +decide only [SEM])
        obtain ⟨f1, f2, f3, f4, f5⟩ := hI.unref hi100 hxl hall hs
        have f6 := swN_len _ (refs_nd cl hI.nd).1 hs
        rw [(refs_nd cl hI.nd).2.1, List.length_nil] at f6
        exact fin last M' out sv' w f1 (by omega) f2 f3 f4 f5 (D.sel [4, 5, 0, 1, 6, 3, 2] d).tail.tail
    skip
    refine ⟨fun hk => ?_, fun hk => ?_⟩
    · repeat (apply ldm d; (focus ((repeat (first | exact .h _ | refine .t _ _ ?_)); done)); (focus rfl))
      cases hx : hfind M ca with
      | none => exact fn20 (fun _ _ => rfl) (Pin_no hx (D.sel [2] d) fun w d => fin0 last M w hI.late (D.sel [2, 3, 0, 4, 1] d).tail.tail)
      | some x => exact fn20 (fun _ _ => rfl) (Pin_ok hI.nd hx (D.sel [2] d) fun w d => fin0 last _ w (hI.pin hi100 hx) (D.sel [2, 3, 0, 4, 1] d).tail.tail)
    skip
    refine ⟨fun hk => ?_, fun hk => ?_⟩
    · repeat (apply ldm d; (focus ((repeat (first | exact .h _ | refine .t _ _ ?_)); done)); (focus rfl))
      refine fn20 (fun _ _ => rfl) (Unpin_ok hI.nd (by omega) (by omega) (D.sel [2] d) (fun h w d => ?_) (fun x hx hp w d => ?_) fun x hx hp n M' out sv' w hn' hs d => ?_)
      · repeat (simp +decide only [SEM])
        exact fin0 last M w hI.late (D.sel [2, 3, 0, 4, 1] d).tail.tail
      · repeat (simp +decide only [SEM])
        exact fin0 last M w hI.late (D.sel [2, 3, 0, 4, 1] d).tail.tail
      · repeat (simp +decide only [SEM])
        obtain ⟨f1, f2, f3, f4, f5⟩ := hI.unpin hi100 hx hp hs
        have f6 := swN_len _ (Nd.upd (x := x) (y := { x with pins := IntKind.i64.wrap (x.pins - 1) }) hI.nd (hfind_id hx).1) hs
        rw [set_len (y := { x with pins := IntKind.i64.wrap (x.pins - 1) }) hI.nd hx, List.length_nil] at f6
        exact fin last M' out sv' w f1 (by omega) f2 f3 f4 f5 (D.sel [3, 4, 0, 1, 5, 2] d).tail.tail
    skip
    refine ⟨fun hk => ?_, fun hk => ?_⟩
    · repeat (first | (simp +decide only [SEM]) | (apply ldm d; (focus ((repeat (first | exact .h _ | refine .t _ _ ?_)); done)); (focus rfl)))
      refine fn30 (fun _ _ => rfl) (Carry_any hI.nd hsees (by omega) (by omega) (D.sel [5, 2] d) (fun v w d => ?_) fun h hh hsp hni v w d => ?_)
      · exact fin0 last M w hI.late (D.sel [3, 4, 1, 5, 2, 0] d).tail.tail
      · exact fin0 last _ w (hI.carry hi100 hxl hh hsp hni) (D.sel [3, 4, 0, 5, 2, 1] d).tail.tail
    skip
    refine ⟨fun hk => ?_, fun hk => ?_⟩
    · repeat (first | (simp +decide only [SEM]) | (apply ldm d; (focus ((repeat (first | exact .h _ | refine .t _ _ ?_)); done)); (focus rfl)))
      refine fn30 (fun _ _ => rfl) (Hand_any hI.nd hsees (by omega) (by omega) (D.sel [5, 2] d) (fun v w d => ?_) fun h hh left v w hle d => ?_)
      · exact fin0 last M w hI.late (D.sel [3, 4, 1, 5, 2, 0] d).tail.tail
      · exact fin0 last _ w (hI.hand hi100 hxl hh hle) (D.sel [3, 4, 1, 5, 2, 0] d).tail.tail
    · exact fin0 last M w hI.late (D.sel [1, 3, 2, 4, 0] d).tail.tail
end
end Go.Proofs.YtbbenmflickapaaDoor
