/- Objects: what a sweep keeps. -/
import Derived.Test.YtbbenmflickapaaDoorOr
import Derived.Test.YtbbenmflickapaaDoorOm
set_option maxRecDepth 100000
namespace Go.Proofs.YtbbenmflickapaaDoor
open Go Go.Jac
/-- Which are told to have ended. -/
def ends (out : List Ev) : List Int := (out.filter (·.e)).map (·.o)
theorem ends_app (a b : List Ev) : ends (a ++ b) = ends a ++ ends b := by simp [ends]
def b4 (s : Int) : Prop := iand .i64 s 4 ≠ 0
theorem b4_sh (x : Hd) : b4 (shN x 2 4) := by
  intro h
  have h2 : BitVec.ofInt 64 (iand .i64 (shN x 2 4) 4) = 0#64 := by rw [h]; rfl
  have h3 : BitVec.ofInt 64 (iand .i64 (shN x 2 4) 4) = BitVec.ofInt 64 (shN x 2 4) &&& 4#64 := ofInt_wrap _
  rw [h3] at h2
  unfold shN at h2
  rw [ior_bv] at h2
  have h4 := congrArg (fun v => v.getLsbD 2) h2
  simp at h4
theorem held_b {x : Hd} (hr : 0 ≤ x.refs ∧ x.refs ≤ 100000) (hp : 0 ≤ x.pins ∧ x.pins ≤ 100000) (hc : -100000 ≤ x.car ∧ x.car ≤ 100000) : heldB x = decide (0 < x.refs + x.pins + x.car) := by
  unfold heldB
  rw [w64 (n := x.refs + x.pins) (by omega) (by omega), w64 (by omega) (by omega)]
theorem rm_mem {S : List Hd} {id : Int} {x : Hd} : x ∈ rmH id S ↔ x ∈ S ∧ x.id ≠ id := by
  unfold rmH
  simp [List.mem_filter]
theorem hfind_upd {S : List Hd} {id : Int} {y : Hd} (hi : y.id = id) (a : Int) : hfind (y :: rmH id S) a = if a = id then some y else hfind S a := by
  rw [hfind_cons, hfind_rm, hi]
  by_cases e : id = a
  · subst e; simp
  · rw [if_neg e, if_neg e, if_neg (fun h => e h.symm)]
theorem hfind_mem {S : List Hd} (hn : Nd S) {x : Hd} (hx : x ∈ S) : hfind S x.id = some x := by
  unfold hfind
  induction S with
  | nil => cases hx
  | cons z r ih =>
    unfold Nd at hn
    rw [List.map_cons, List.nodup_cons] at hn
    rw [List.find?_cons]
    rcases List.mem_cons.1 hx with rfl | h
    · simp
    · have : z.id ≠ x.id := fun e => hn.1 (List.mem_map.2 ⟨x, h, e.symm⟩)
      simp only [this, decide_false]
      exact ih hn.2 h
/-- What a sweep of M0 keeps; r more are to be let go. -/
structure SI (c cu : Int) (r : Nat) (M0 S : List Hd) (wk Z : List Int) : Prop where
  nd : Nd S
  sub : ∀ y ∈ S, ∃ y0, hfind M0 y.id = some y0 ∧ y.paired = y0.paired ∧ y.refs = y0.refs ∧ y.pins = y0.pins ∧ (y.peer = y0.peer ∨ (y.peer = 0 ∧ hfind S y0.peer = none))
  bnd : ∀ y ∈ S, y.car ≤ cu ∧ (bt S : Int) + r - y.car ≤ c
  held : ∀ y ∈ S, heldB y = true ∨ y.id ∈ wk
  end1 : ∀ z ∈ Z, ∃ z0, hfind M0 z = some z0 ∧ hfind S z = none ∧ ∀ p, hfind S z0.peer = some p → p.peer = 0 ∧ b4 p.shows
  zn : Z.Nodup
  cnt : S.length + Z.length = M0.length
  btl : bt S + r ≤ bt M0
section
variable {c cu : Int} {r : Nat} {M0 S : List Hd} {wk Z : List Int}
theorem SI.bag (hc : cu ≤ 100000 ∧ c ≤ 100000) (h : SI c cu (r + 1) M0 S wk Z) (acc : List Int) (id : Int) : SI c cu r M0 (bagF (S, acc) id).1 (wk ++ (if hfind S id = none then [] else [id])) Z ∧ (bagF (S, acc) id).2 = acc ++ (if hfind S id = none then [] else [id]) := by
  unfold bagF
  cases hy : hfind S id with
  | none =>
    simp only [if_true, List.append_nil, and_true]
    exact ⟨h.nd, h.sub, fun y hy => by have := h.bnd y hy; omega, h.held, h.end1, h.zn, h.cnt, by have := h.btl; omega⟩
  | some y =>
    have hid := hfind_id hy
    have hw : IntKind.i64.wrap (y.car - 1) = y.car - 1 := by
      have := h.bnd y hid.2
      exact w64 (by omega) (by omega)
    simp only [hw, reduceCtorEq, if_false, and_true]
    have hf := hfind_upd (S := S) (id := id) (y := { y with car := y.car - 1 }) hid.1
    have hb : bt ({ y with car := y.car - 1 } :: rmH id S) = bt S := bt_set h.nd hy rfl
    have hnone : ∀ a, hfind ({ y with car := y.car - 1 } :: rmH id S) a = none ↔ hfind S a = none := fun a => by
      rw [hf]
      split
      · rename_i e; subst e; rw [hy]; simp
      · exact Iff.rfl
    refine ⟨Nd.upd (x := y) h.nd hid.1, fun x hx => ?_, fun x hx => ?_, fun x hx => ?_, fun z hz => ?_, h.zn, ?_, by rw [hb]; have := h.btl; omega⟩
    · rcases List.mem_cons.1 hx with rfl | hx
      · obtain ⟨y0, h1, h2, h3, h4, h5⟩ := h.sub y hid.2
        exact ⟨y0, h1, h2, h3, h4, h5.imp_right fun ⟨a, b⟩ => ⟨a, (hnone _).2 b⟩⟩
      · obtain ⟨y0, h1, h2, h3, h4, h5⟩ := h.sub x (rm_mem.1 hx).1
        exact ⟨y0, h1, h2, h3, h4, h5.imp_right fun ⟨a, b⟩ => ⟨a, (hnone _).2 b⟩⟩
    · rw [hb]
      rcases List.mem_cons.1 hx with rfl | hx
      · have := h.bnd y hid.2
        simp only
        omega
      · have := h.bnd x (rm_mem.1 hx).1
        omega
    · rcases List.mem_cons.1 hx with rfl | hx
      · exact .inr (by simp [hid.1])
      · exact (h.held x (rm_mem.1 hx).1).imp_right fun h => by simp [h]
    · obtain ⟨z0, h1, h2, h3⟩ := h.end1 z hz
      refine ⟨z0, h1, (hnone _).2 h2, fun p hp => ?_⟩
      rw [hf] at hp
      split at hp
      · rename_i e
        obtain rfl := Option.some.inj hp
        exact h3 y (by rw [e]; exact hy)
      · exact h3 p hp
    · rw [set_len h.nd hy]; exact h.cnt
theorem SI.bags (hc : cu ≤ 100000 ∧ c ≤ 100000) : ∀ (l : List Int) {S : List Hd} {wk : List Int} (acc : List Int), SI c cu l.length M0 S wk Z → ∃ nw, (l.foldl bagF (S, acc)).2 = acc ++ nw ∧ SI c cu 0 M0 (l.foldl bagF (S, acc)).1 (wk ++ nw) Z
  | [], S, wk, acc, h => ⟨[], by simp, by simpa using h⟩
  | a :: l, S, wk, acc, h => by
    obtain ⟨h1, h2⟩ := SI.bag hc (by simpa using h) acc a
    obtain ⟨nw, h3, h4⟩ := SI.bags hc l (S := (bagF (S, acc) a).1) (bagF (S, acc) a).2 h1
    refine ⟨(if hfind S a = none then [] else [a]) ++ nw, ?_, ?_⟩
    · rw [List.foldl_cons, ← List.append_assoc, ← h2]; exact h3
    · rw [List.foldl_cons, ← List.append_assoc]; exact h4
/-- The objects ahead of a sweep: peers are peers of one another. -/
structure S0 (M0 : List Hd) : Prop where
  sym : ∀ a x y, hfind M0 a = some x → hfind M0 x.peer = some y → y.peer = a
  zero : hfind M0 0 = none
theorem SI.none_of (h : SI c cu r M0 S wk Z) {a : Int} (ha : hfind M0 a = none) : hfind S a = none := by
  cases hx : hfind S a with
  | none => rfl
  | some x =>
    obtain ⟨x0, h1, _⟩ := h.sub x (hfind_id hx).2
    rw [(hfind_id hx).1, ha] at h1
    cases h1
theorem shE_mem {x : Hd} {cl st : Int} : ∀ e ∈ shE x cl st, e.o = x.id ∧ e.e = false := by
  intro e he
  unfold shE at he
  split at he
  · cases he
  · rw [List.mem_singleton.1 he]; exact ⟨rfl, rfl⟩
theorem ends_sh (x : Hd) (cl st : Int) : ends (shE x cl st) = [] := by
  unfold ends
  rw [List.filter_eq_nil_iff.2]
  · rfl
  · intro e he
    rw [(shE_mem e he).2]; simp
theorem SI.step (hc : cu ≤ 100000 ∧ c ≤ 100000) (h0 : S0 M0) {id : Int} (h : SI c cu 0 M0 S (id :: wk) Z) :
    SI c cu 0 M0 (swS S id).1 (wk ++ (swS S id).2.1) (Z ++ ends (swS S id).2.2) ∧ ∀ e ∈ (swS S id).2.2, hfind M0 e.o ≠ none := by
  have keep : SI c cu 0 M0 S wk Z → SI c cu 0 M0 S (wk ++ []) (Z ++ ends []) ∧ ∀ e ∈ ([] : List Ev), hfind M0 e.o ≠ none := fun h => ⟨by simpa [ends] using h, by simp⟩
  cases hx : hfind S id with
  | none =>
    rw [swS_none hx]
    refine keep ⟨h.nd, h.sub, h.bnd, fun y hy => ?_, h.end1, h.zn, h.cnt, h.btl⟩
    rcases h.held y hy with h1 | h1
    · exact .inl h1
    · rcases List.mem_cons.1 h1 with h2 | h2
      · exfalso
        have := hfind_mem h.nd hy
        rw [h2, hx] at this; cases this
      · exact .inr h2
  | some x =>
    have hid := hfind_id hx
    cases hh : heldB x with
    | true =>
      rw [swS_held hx hh]
      refine keep ⟨h.nd, h.sub, h.bnd, fun y hy => ?_, h.end1, h.zn, h.cnt, h.btl⟩
      rcases h.held y hy with h1 | h1
      · exact .inl h1
      · rcases List.mem_cons.1 h1 with h2 | h2
        · have := hfind_mem h.nd hy
          rw [h2, hx] at this
          obtain rfl := Option.some.inj this
          exact .inl hh
        · exact .inr h2
    | false =>
      rw [swS_end hx hh]
      obtain ⟨x0, hx0, e1, e2, e3, e4⟩ := h.sub x hid.2
      rw [hid.1] at hx0
      have hR : ∀ a, hfind (rmH id S) a = if id = a then none else hfind S a := hfind_rm S id
      have hRn : ∀ a, hfind S a = none → hfind (rmH id S) a = none := fun a h => by
        rw [hR]
        split
        · rfl
        · exact h
      have hnR := h.nd.rm id
      have hlR := rm_len h.nd hx
      have hbR := bt_rm h.nd hx
      have hidZ : id ∉ Z := fun hm => by
        obtain ⟨_, _, h2, _⟩ := h.end1 id hm
        rw [hx] at h2; cases h2
      have hzn : (Z ++ [id]).Nodup := by
        rw [List.nodup_append]
        exact ⟨h.zn, by simp, fun a ha b hb e => hidZ (by rw [List.mem_singleton.1 hb] at e; rw [← e]; exact ha)⟩
      -- the objects behind the end and its peer's news
      have key : SI c cu x.bag.length M0 (peerF (rmH id S) x.peer).1 wk (Z ++ [id]) ∧ (∀ e ∈ (peerF (rmH id S) x.peer).2, hfind M0 e.o ≠ none) ∧ ends (peerF (rmH id S) x.peer).2 = [] := by
        have none_case : hfind (rmH id S) x.peer = none → hfind (rmH id S) x0.peer = none → SI c cu x.bag.length M0 (peerF (rmH id S) x.peer).1 wk (Z ++ [id]) ∧ (∀ e ∈ (peerF (rmH id S) x.peer).2, hfind M0 e.o ≠ none) ∧ ends (peerF (rmH id S) x.peer).2 = [] := by
          intro hn hn0
          have ep : peerF (rmH id S) x.peer = (rmH id S, []) := by unfold peerF; rw [hn]
          rw [ep]
          refine ⟨⟨hnR, fun y hy => ?_, fun y hy => ?_, fun y hy => ?_, fun z hz => ?_, hzn, ?_, by have := h.btl; simp only; omega⟩, by simp, rfl⟩
          · obtain ⟨hy1, hy2⟩ := rm_mem.1 hy
            obtain ⟨y0, h1, h2, h3, h4, h5⟩ := h.sub y hy1
            exact ⟨y0, h1, h2, h3, h4, h5.imp_right fun ⟨a, b⟩ => ⟨a, hRn _ b⟩⟩
          · have := h.bnd y (rm_mem.1 hy).1
            simp only
            omega
          · obtain ⟨hy1, hy2⟩ := rm_mem.1 hy
            rcases h.held y hy1 with h1 | h1
            · exact .inl h1
            · rcases List.mem_cons.1 h1 with h2 | h2
              · exact absurd h2 hy2
              · exact .inr h2
          · rcases List.mem_append.1 hz with hz | hz
            · obtain ⟨z0, h1, h2, h3⟩ := h.end1 z hz
              refine ⟨z0, h1, hRn _ h2, fun p hp => ?_⟩
              rw [hR] at hp
              split at hp
              · cases hp
              · exact h3 p hp
            · rw [List.mem_singleton.1 hz]
              exact ⟨x0, hx0, by rw [hR, if_pos rfl], fun p hp => by rw [hn0] at hp; cases hp⟩
          · have := h.cnt
            simp only [List.length_append, List.length_singleton]
            omega
        rcases e4 with e4 | ⟨e4, e5⟩
        · cases hy : hfind (rmH id S) x.peer with
          | none => exact none_case hy (by rw [← e4]; exact hy)
          | some y =>
            have ep : peerF (rmH id S) x.peer = ({ y with peer := 0, shows := shN y 2 4 } :: rmH x.peer (rmH id S), shE y 2 4) := by unfold peerF; rw [hy]
            rw [ep]
            have hyi := hfind_id hy
            obtain ⟨hyS, hyne⟩ := rm_mem.1 hyi.2
            obtain ⟨y0, f1, f2, f3, f4, f5⟩ := h.sub y hyS
            have f1' : hfind M0 x.peer = some y0 := by rw [← hyi.1]; exact f1
            have hy0p : y0.peer = id := h0.sym id x0 y0 hx0 (by rw [← e4]; exact f1')
            have hf := hfind_upd (S := rmH id S) (id := x.peer) (y := { y with peer := 0, shows := shN y 2 4 }) hyi.1
            have hpe : x.peer ≠ id := fun e => hyne (hyi.1.trans e)
            have hb : bt ({ y with peer := 0, shows := shN y 2 4 } :: rmH x.peer (rmH id S)) = bt (rmH id S) := bt_set hnR hy rfl
            have hnone : ∀ a, hfind ({ y with peer := 0, shows := shN y 2 4 } :: rmH x.peer (rmH id S)) a = none ↔ hfind (rmH id S) a = none := fun a => by
              rw [hf]
              split
              · rename_i e; subst e; rw [hy]; simp
              · exact Iff.rfl
            refine ⟨⟨Nd.upd (x := y) hnR hyi.1, fun z hz => ?_, fun z hz => ?_, fun z hz => ?_, fun z hz => ?_, hzn, ?_, by rw [hb]; have := h.btl; omega⟩, fun e he => ?_, ends_sh y 2 4⟩
            · rcases List.mem_cons.1 hz with rfl | hz
              · refine ⟨y0, f1, f2, f3, f4, .inr ⟨rfl, ?_⟩⟩
                rw [hy0p, hnone, hR, if_pos rfl]
              · have hz2 := rm_mem.1 (rm_mem.1 hz).1
                obtain ⟨z0, h1, h2, h3, h4, h5⟩ := h.sub z hz2.1
                exact ⟨z0, h1, h2, h3, h4, h5.imp_right fun ⟨a, b⟩ => ⟨a, (hnone _).2 (hRn _ b)⟩⟩
            · rw [hb]
              rcases List.mem_cons.1 hz with rfl | hz
              · have := h.bnd y hyS
                simp only
                omega
              · have := h.bnd z (rm_mem.1 (rm_mem.1 hz).1).1
                omega
            · rcases List.mem_cons.1 hz with rfl | hz
              · rcases h.held y hyS with h1 | h1
                · exact .inl h1
                · rcases List.mem_cons.1 h1 with h2 | h2
                  · exact absurd h2 hyne
                  · exact .inr h2
              · have hz2 := rm_mem.1 (rm_mem.1 hz).1
                rcases h.held z hz2.1 with h1 | h1
                · exact .inl h1
                · rcases List.mem_cons.1 h1 with h2 | h2
                  · exact absurd h2 hz2.2
                  · exact .inr h2
            · have look : ∀ p q, hfind ({ y with peer := 0, shows := shN y 2 4 } :: rmH x.peer (rmH id S)) p = some q → (q.peer = 0 ∧ b4 q.shows) ∨ hfind S p = some q := fun p q hq => by
                rw [hf] at hq
                split at hq
                · obtain rfl := Option.some.inj hq
                  exact .inl ⟨rfl, b4_sh y⟩
                · rw [hR] at hq
                  split at hq
                  · cases hq
                  · exact .inr hq
              rcases List.mem_append.1 hz with hz | hz
              · obtain ⟨z0, h1, h2, h3⟩ := h.end1 z hz
                refine ⟨z0, h1, (hnone _).2 (hRn _ h2), fun p hp => ?_⟩
                rcases look _ _ hp with h4 | h4
                · exact h4
                · exact h3 p h4
              · rw [List.mem_singleton.1 hz]
                refine ⟨x0, hx0, by rw [hnone, hR, if_pos rfl], fun p hp => ?_⟩
                rw [hf, if_pos e4.symm] at hp
                obtain rfl := Option.some.inj hp
                exact ⟨rfl, b4_sh y⟩
            · rw [set_len hnR hy]
              have := h.cnt
              simp only [List.length_append, List.length_singleton]
              omega
            · rw [(shE_mem e he).1, hyi.1, f1']; simp
        · refine none_case ?_ ?_
          · rw [e4, hR]
            split
            · rfl
            · exact h.none_of h0.zero
          · rw [hR]
            split
            · rfl
            · exact e5
      obtain ⟨k1, k2, k3⟩ := key
      obtain ⟨nw, h3, h4⟩ := SI.bags hc x.bag [] k1
      rw [List.nil_append] at h3
      have e5 : ends (⟨id, true, 0⟩ :: (peerF (rmH id S) x.peer).2) = [id] := by
        have : (⟨id, true, 0⟩ :: (peerF (rmH id S) x.peer).2 : List Ev) = [⟨id, true, 0⟩] ++ (peerF (rmH id S) x.peer).2 := rfl
        rw [this, ends_app, k3]; rfl
      refine ⟨?_, fun e he => ?_⟩
      · rw [e5, h3]; exact h4
      · rcases List.mem_cons.1 he with rfl | he
        · rw [hx0]; simp
        · exact k2 e he
theorem SI.run (hc : cu ≤ 100000 ∧ c ≤ 100000) (h0 : S0 M0) : ∀ (n : Nat) {S : List Hd} {wk : List Int} {out : List Ev} {M' : List Hd} {out' : List Ev}, SI c cu 0 M0 S wk (ends out) → (∀ e ∈ out, hfind M0 e.o ≠ none) → swN n S wk out = some (M', out') → SI c cu 0 M0 M' [] (ends out') ∧ ∀ e ∈ out', hfind M0 e.o ≠ none
  | 0, _, _, _, _, _, _, _, hs => by cases hs
  | n + 1, S, [], out, M', out', h, hm, hs => by
    rw [swN_end] at hs
    cases hs
    exact ⟨h, hm⟩
  | n + 1, S, id :: wk, out, M', out', h, hm, hs => by
    rw [swN_step] at hs
    obtain ⟨h1, h2⟩ := h.step hc h0
    refine SI.run hc h0 n ?_ ?_ hs
    · rw [ends_app]; exact h1
    · intro e he
      rcases List.mem_append.1 he with he | he
      · exact hm e he
      · exact h2 e he
end
end Go.Proofs.YtbbenmflickapaaDoor
