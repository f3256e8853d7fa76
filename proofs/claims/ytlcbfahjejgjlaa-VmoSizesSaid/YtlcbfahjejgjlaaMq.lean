/- Memory: windows on windows. -/
import Derived.Test.YtlcbfahjejgjlaaMp
set_option maxRecDepth 100000
set_option maxHeartbeats 8000000
namespace Go.Proofs.Ytlcbfahjejgjlaa
open Go Go.Jac
theorem BaseN.mono {M M' : List Vo} (hM : ∀ a z, vfind M a = some z → vfind M' a = some z) {n : Nat} {x y : Vo} {t : Int} (h : BaseN M n x y t) : BaseN M' n x y t := by
  induction h with
  | z h => exact .z h
  | s h hz _ ih => exact .s h (hM _ _ hz) ih
theorem BaseN.uniq {M : List Vo} {n n' : Nat} {x y y' : Vo} {t t' : Int} (h : BaseN M n x y t) (h' : BaseN M n' x y' t') : n = n' ∧ y = y' ∧ t = t' := by
  induction h generalizing n' y' t' with
  | z h =>
    obtain ⟨a, b, c⟩ := h'.flat h
    exact ⟨a.symm, b.symm, c.symm⟩
  | s h hz _ ih =>
    cases h' with
    | z h2 => rw [h] at h2; cases h2
    | s _ hz2 k2 =>
      rw [hz] at hz2
      obtain rfl := Option.some.inj hz2
      obtain ⟨a, b, c⟩ := ih k2
      exact ⟨by rw [a], b, by rw [c]⟩
/-- Other children. -/
def chV (id : Int) (cv : Value) (ch : List Int) (x : Vo) : Vo := if x.id = id then { x with cv := cv, ch := ch } else x
theorem chV_find {M : List Vo} {id : Int} {y : Vo} (hy : vfind M id = some y) (cv : Value) (ch : List Int) (a : Int) : vfind ({ y with cv := cv, ch := ch } :: rmV id M) a = (vfind M a).map (chV id cv ch) := by
  rw [vfind_upd (y := { y with cv := cv, ch := ch }) (vfind_id hy).1]
  split
  · rename_i e
    subst e
    rw [hy]
    simp [chV, (vfind_id hy).1]
  · rename_i e
    cases hz : vfind M a with
    | none => rfl
    | some z =>
      have := (vfind_id hz).1
      simp only [Option.map_some, chV]
      rw [if_neg (by rw [this]; exact e)]
theorem chV_key {id : Int} {cv : Value} {ch : List Int} {α : Type} (g : Vo → α) (hg : ∀ x : Vo, g { x with cv := cv, ch := ch } = g x) (x : Vo) : g (chV id cv ch x) = g x := by
  unfold chV; split
  · exact hg x
  · rfl
theorem VW.ch {cap : Int} {F : List Fr} {M : List Vo} {id : Int} {y : Vo} {cv : Value} {ch : List Int} (h : VW cap F M) (hy : vfind M id = some y) : VW cap F ({ y with cv := cv, ch := ch } :: rmV id M) := by
  refine h.map (f := chV id cv ch) (chV_find hy cv ch) (h.nd.upd (x := y) (y := { y with cv := cv, ch := ch }) (vfind_id hy).1) (chV_key _ fun _ => rfl) (chV_key _ fun _ => rfl) (chV_key _ fun _ => rfl) (fun a x hx => by rw [chV_key (fun x => x.size) fun _ => rfl]; exact h.sz x (vfind_id hx).2) (chV_key _ fun _ => rfl) (chV_key _ fun _ => rfl) h.ok (fun a x hx => ?_) (fun a x hx e e2 => ?_) fun i => ?_
  · rw [chV_key (fun x => x.pl) fun _ => rfl]; exact h.kn a x hx
  · rw [chV_key (fun x => x.pl) fun _ => rfl]; exact e2
  · rw [h.ui i, tot_cons, tot_rm h.nd hy]
theorem VW.win {cap : Int} {F : List Fr} {M : List Vo} {id p size a : Int} {x : Vo} {c : Nat} (h : VW cap F M) (hno : vfind M id = none) (hp : vfind M p = some x) (hb : ∃ N y t, N < 1000 ∧ BaseN M N x y t) (hd : 0 ≤ x.depth) (hs : 0 ≤ size ∧ size ≤ 4294967296) (ha : 0 ≤ a ∧ a ≤ 4294967296) : VW cap F (winV id size p a (x.depth + 1) c :: M) := by
  have hm : ∀ a' z, vfind M a' = some z → vfind (winV id size p a (x.depth + 1) c :: M) a' = some z := fun a' z hz => by
    rw [vfind_cons, if_neg (fun e => ?_), hz]
    have e : id = a' := e
    rw [← e, hno] at hz; cases hz
  have hc : ∀ a' z, vfind (winV id size p a (x.depth + 1) c :: M) a' = some z → z = winV id size p a (x.depth + 1) c ∨ vfind M a' = some z := fun a' z hz => by
    rw [vfind_cons] at hz
    split at hz
    · exact .inl (Option.some.inj hz).symm
    · exact .inr hz
  refine ⟨?_, h.ok, fun z hz => ?_, fun a' z hz => ?_, fun a' z z' h1 h2 h3 => ?_, fun a' z hz => ?_, fun a' z hz => ?_, fun a' z hz => ?_, fun f => ?_⟩
  · have hn := h.nd
    unfold Nv at hn ⊢
    rw [List.map_cons, List.nodup_cons]
    refine ⟨fun hmm => ?_, hn⟩
    obtain ⟨z, hz, e⟩ := List.mem_map.1 hmm
    have := vfind_mem h.nd hz
    have e : z.id = id := e
    rw [e, hno] at this; cases this
  · rcases List.mem_cons.1 hz with rfl | hz
    · exact hs
    · exact h.sz z hz
  · rcases hc a' z hz with rfl | hz
    · exact ha
    · exact h.frm a' z hz
  · rcases hc a' z h1 with rfl | h1
    · have h3 : vfind (winV id size p a (x.depth + 1) c :: M) p = some z' := h3
      rw [hm _ _ hp] at h3
      obtain rfl := Option.some.inj h3
      exact ⟨hd, by show x.depth < x.depth + 1; omega⟩
    · obtain ⟨N, y, t, _, hbb⟩ := h.base a' z h1
      cases hbb with
      | z h => rw [h] at h2; cases h2
      | s _ hz _ =>
        rw [hm _ _ hz] at h3
        obtain rfl := Option.some.inj h3
        exact h.dep a' z _ h1 h2 hz
  · rcases hc a' z hz with rfl | hz
    · obtain ⟨N, y, t, hN, hbb⟩ := hb
      exact ⟨N + 1, y, _, by omega, .s rfl (hm _ _ hp) (hbb.mono hm)⟩
    · obtain ⟨N, y, t, hN, hbb⟩ := h.base a' z hz
      exact ⟨N, y, t, hN, hbb.mono hm⟩
  · rcases hc a' z hz with rfl | hz
    · exact ⟨fun h => (by cases h), fun _ => rfl⟩
    · exact h.hasf a' z hz
  · rcases hc a' z hz with rfl | hz
    · exact List.nodup_nil
    · exact h.kn a' z hz
  · rw [h.ui f, tot_cons]
    show _ = ((cnt [] f + tot M f : Nat) : Int)
    simp [cnt]
/-- Windows one above the other. -/
structure Dp (j : Nat) (M : List Vo) (x y : Vo) : Prop where
  vw : VW 40 [] M
  len : M.length = j + 1
  no : ∀ id, (j : Int) + 1 < id → vfind M id = none
  ch : ∀ z ∈ M, z.ch.length ≤ 1
  dp : ∀ z ∈ M, 0 ≤ z.depth ∧ z.depth ≤ 16
  x1 : vfind M ((j : Int) + 1) = some x
  xd : x.dr = false
  xs : x.size = 1920 - 64 * (j : Int)
  xp : x.depth = j
  xc : x.ch = []
  xl : x.sl = decide (0 < j)
  y1 : vfind M 1 = some y
  yd : y.dr = false
  yl : y.sl = false
  ys : y.size = 1920
  yp : y.pl = []
  bs : BaseN M j x y (64 * (j : Int))
theorem Dp.zero {fb c : Nat} : Dp 0 [newV 1 1920 fb c] (newV 1 1920 fb c) (newV 1 1920 fb c) :=
  ⟨(VW.nil (by omega)).new rfl (by omega), rfl, fun id h => by rw [vfind_cons, if_neg (fun e => by have e : (1 : Int) = id := e; omega)]; rfl, by simp [newV], by simp [newV], rfl, rfl, by simp [newV], rfl, rfl, rfl, rfl, rfl, rfl, rfl, rfl, .z rfl⟩
theorem Dp.next {j : Nat} {M : List Vo} {x y : Vo} {c : Nat} {v : Value} (h : Dp j M x y) (hj : j < 16) :
    ∃ x' y', Dp (j + 1) (addM M (winV ((j : Int) + 1 + 1) (x.size - 64) ((j : Int) + 1) 64 (x.depth + 1) c) v) x' y' := by
  obtain ⟨X, hX⟩ : ∃ X, X = winV ((j : Int) + 1 + 1) (x.size - 64) ((j : Int) + 1) 64 (x.depth + 1) c := ⟨_, rfl⟩
  have hxs := h.xs
  have hvw := h.vw.win (id := (j : Int) + 1 + 1) (p := (j : Int) + 1) (size := x.size - 64) (a := 64) (c := c) (h.no _ (by omega)) h.x1 ⟨j, y, _, by omega, h.bs⟩ (by rw [h.xp]; omega) (by omega) (by omega)
  rw [← hX] at hvw ⊢
  have Xi : X.id = (j : Int) + 1 + 1 := by rw [hX]; rfl
  have Xp : X.parent = (j : Int) + 1 := by rw [hX]; rfl
  have hf1 : vfind (X :: M) ((j : Int) + 1) = some x := by rw [vfind_cons, if_neg (by omega)]; exact h.x1
  have eM : addM M X v = { x with cv := v, ch := x.ch ++ [X.id] } :: rmV ((j : Int) + 1) (X :: M) := by
    unfold addM
    rw [Xp, h.x1]
  rw [eM]
  have hfind := chV_find hf1 v (x.ch ++ [X.id])
  have hvw' := hvw.ch (cv := v) (ch := x.ch ++ [X.id]) hf1
  have hold : ∀ a z, vfind M a = some z → vfind (X :: M) a = some z := fun a z hz => by
    rw [vfind_cons, if_neg (fun e => ?_), hz]
    rw [← e, Xi, h.no _ (by omega)] at hz; cases hz
  have hXf : chV ((j : Int) + 1) v (x.ch ++ [X.id]) X = X := by
    unfold chV; rw [if_neg (by omega)]
  have hmem : ∀ z ∈ { x with cv := v, ch := x.ch ++ [X.id] } :: rmV ((j : Int) + 1) (X :: M), z = { x with cv := v, ch := x.ch ++ [X.id] } ∨ z = X ∨ z ∈ M := fun z hz => by
    rcases List.mem_cons.1 hz with rfl | hz
    · exact .inl rfl
    · rcases List.mem_cons.1 (rmv_mem.1 hz).1 with rfl | hz
      · exact .inr (.inl rfl)
      · exact .inr (.inr hz)
  refine ⟨X, chV ((j : Int) + 1) v (x.ch ++ [X.id]) y, hvw', ?_, fun id hid => ?_, fun z hz => ?_, fun z hz => ?_, ?_, by rw [hX]; rfl, ?_, ?_, by rw [hX]; rfl, by rw [hX]; simp [winV], ?_, ?_, ?_, ?_, ?_, ?_⟩
  · rw [setv_len (y := { x with cv := v, ch := x.ch ++ [X.id] }) hvw.nd hf1, List.length_cons, h.len]
  · rw [hfind, vfind_cons, if_neg (by omega), h.no id (by omega)]; rfl
  · rcases hmem z hz with rfl | rfl | hz
    · show (x.ch ++ [X.id]).length ≤ 1
      rw [h.xc]; simp
    · rw [hX]; simp [winV]
    · exact h.ch z hz
  · rcases hmem z hz with rfl | rfl | hz
    · show 0 ≤ x.depth ∧ x.depth ≤ 16
      rw [h.xp]; omega
    · rw [hX]
      show 0 ≤ x.depth + 1 ∧ x.depth + 1 ≤ 16
      rw [h.xp]; omega
    · exact h.dp z hz
  · rw [hfind, vfind_cons, if_pos (by rw [Xi]; omega), Option.map_some, hXf]
  · rw [hX]
    show x.size - 64 = _
    omega
  · rw [hX]
    show x.depth + 1 = _
    rw [h.xp]; omega
  · rw [hfind, hold _ _ h.y1]; rfl
  · rw [chV_key (fun x => x.dr) fun _ => rfl]; exact h.yd
  · rw [chV_key (fun x => x.sl) fun _ => rfl]; exact h.yl
  · rw [chV_key (fun x => x.size) fun _ => rfl]; exact h.ys
  · rw [chV_key (fun x => x.pl) fun _ => rfl]; exact h.yp
  · have hb : BaseN (X :: M) (j + 1) X y (64 + 64 * (j : Int)) := by
      have e : X.from_ = 64 := by rw [hX]; rfl
      have hb0 : BaseN (X :: M) (j + 1) X y (X.from_ + 64 * (j : Int)) := .s (by rw [hX]; rfl) (by rw [Xp]; exact hf1) (h.bs.mono hold)
      rwa [e] at hb0
    have hb2 := hb.map hfind (chV_key _ fun _ => rfl) (chV_key _ fun _ => rfl) (chV_key _ fun _ => rfl)
    rw [hXf] at hb2
    rw [show 64 * ((j + 1 : Nat) : Int) = 64 + 64 * (j : Int) from by omega]
    exact hb2
end Go.Proofs.Ytlcbfahjejgjlaa
