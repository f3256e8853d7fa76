/- Objects: a row of objects that carry one another; how the row ends. -/
import Derived.Test.YtbbenmflickapaaDoorOl
set_option maxRecDepth 100000
namespace Go.Proofs.YtbbenmflickapaaDoor
open Go Go.Jac
/-- Of an object: references, pins, how often it is carried, what it carries. -/
abbrev Fd := Int × Int × Int × List Int
def fdOf (x : Hd) : Fd := (x.refs, x.pins, x.car, x.bag)
/-- The objects from k to n, none has a peer. -/
structure Chn (k n : Nat) (f : Nat → Fd) (M : List Hd) : Prop where
  nd : Nd M
  len : M.length + k = n + 1
  no : ∀ id : Int, ¬ ((k : Int) ≤ id ∧ id ≤ n) → hfind M id = none
  at_ : ∀ i : Nat, k ≤ i → i ≤ n → ∃ x, hfind M i = some x ∧ x.peer = 0 ∧ fdOf x = f i
section
variable {k n : Nat} {f g : Nat → Fd} {M : List Hd}
theorem Chn.nil : Chn 1 0 f [] := ⟨by show List.Nodup []; simp, rfl, fun _ _ => rfl, fun i h1 h2 => by omega⟩
theorem Chn.congr (h : Chn k n f M) (e : ∀ i, k ≤ i → i ≤ n → f i = g i) : Chn k n g M :=
  ⟨h.nd, h.len, h.no, fun i h1 h2 => by rw [← e i h1 h2]; exact h.at_ i h1 h2⟩
theorem Chn.add {x : Hd} (h : Chn 1 n f M) (hi : x.id = n + 1) (hp : x.peer = 0) : Chn 1 (n + 1) (fun i => if i = n + 1 then fdOf x else f i) (x :: M) := by
  have hno := h.no (n + 1) (by omega)
  refine ⟨?_, by simp only [List.length_cons]; have := h.len; omega, fun id hid => ?_, fun i h1 h2 => ?_⟩
  · have h1 := h.nd
    unfold Nd at h1 ⊢
    rw [List.map_cons, List.nodup_cons]
    refine ⟨fun hm => ?_, h1⟩
    obtain ⟨y, hy, e⟩ := List.mem_map.1 hm
    unfold hfind at hno
    rw [List.find?_eq_none] at hno
    exact hno y hy (by simp only [e, hi, decide_true])
  · rw [hfind_cons, if_neg (by omega)]
    exact h.no id (by omega)
  · by_cases e : i = n + 1
    · subst e
      refine ⟨x, ?_, hp, by simp⟩
      rw [hfind_cons, if_pos (by rw [hi]; omega)]
    · obtain ⟨y, h3, h4, h5⟩ := h.at_ i h1 (by omega)
      refine ⟨y, ?_, h4, by rw [if_neg e]; exact h5⟩
      rw [hfind_cons, if_neg (by rw [hi]; omega)]
      exact h3
theorem Chn.set {i : Nat} {y : Hd} (h : Chn k n f M) (h1 : k ≤ i) (h2 : i ≤ n) (hi : y.id = i) (hp : y.peer = 0) : Chn k n (fun j => if j = i then fdOf y else f j) (y :: rmH i M) := by
  obtain ⟨x, hx, -, -⟩ := h.at_ i h1 h2
  refine ⟨Nd.upd (x := y) h.nd hi, ?_, fun id hid => ?_, fun j h3 h4 => ?_⟩
  · rw [set_len h.nd hx]; exact h.len
  · rw [hfind_cons, if_neg (by omega), hfind_rm, if_neg (by omega)]
    exact h.no id hid
  · by_cases e : j = i
    · subst e
      exact ⟨y, by rw [hfind_cons, if_pos hi], hp, by simp⟩
    · obtain ⟨z, h5, h6, h7⟩ := h.at_ j h3 h4
      refine ⟨z, ?_, h6, by rw [if_neg e]; exact h7⟩
      rw [hfind_cons, if_neg (by omega), hfind_rm, if_neg (by omega)]
      exact h5
theorem Chn.rm (h : Chn k n f M) (hk : k ≤ n) : Chn (k + 1) n f (rmH k M) := by
  obtain ⟨x, hx, -, -⟩ := h.at_ k (Nat.le_refl _) hk
  refine ⟨h.nd.rm _, ?_, fun id hid => ?_, fun j h3 h4 => ?_⟩
  · have := rm_len h.nd hx
    have := h.len
    omega
  · rw [hfind_rm]
    split
    · rfl
    · exact h.no id (by omega)
  · obtain ⟨z, h5, h6, h7⟩ := h.at_ j (by omega) h4
    exact ⟨z, by rw [hfind_rm, if_neg (by omega)]; exact h5, h6, h7⟩
/-- What stands from k on, when the one ahead has ended: h is pinned (0: none is). -/
def lnF (n h k i : Nat) : Fd := (0, if i = h then 1 else 0, if i = k then 0 else 1, if i < n then [(i : Int) + 1] else [])
/-- Where the row stops. -/
def stopF (n h : Nat) : Nat := if h = 0 then n + 1 else h
def evsF (k s : Nat) : List Ev := (List.range' k (s - k)).map fun (i : Nat) => ⟨(i : Int), true, 0⟩
theorem evsF_len (k s : Nat) : (evsF k s).length = s - k := by simp [evsF]
theorem evsF_self (k : Nat) : evsF k k = [] := by simp [evsF]
theorem evsF_step {k s : Nat} (h : k < s) : evsF k s = ⟨(k : Int), true, 0⟩ :: evsF (k + 1) s := by
  unfold evsF
  obtain ⟨j, rfl⟩ := Nat.exists_eq_add_of_lt h
  rw [show k + j + 1 - k = j + 1 from by omega, show k + j + 1 - (k + 1) = j from by omega, List.range'_succ, List.map_cons]
theorem held_eq {x : Hd} {a p c : Int} {bg : List Int} (h : fdOf x = (a, p, c, bg)) (ha : 0 ≤ a ∧ a ≤ 1000) (hp : 0 ≤ p ∧ p ≤ 1000) (hc : 0 ≤ c ∧ c ≤ 1000) : heldB x = decide (0 < a + p + c) ∧ x.bag = bg := by
  unfold fdOf at h
  simp only [Prod.mk.injEq] at h
  obtain ⟨rfl, rfl, rfl, rfl⟩ := h
  refine ⟨?_, rfl⟩
  unfold heldB
  rw [w64 (n := x.refs + x.pins) (by omega) (by omega), w64 (by omega) (by omega)]
theorem line_sw {h : Nat} (hh : h ≤ n) : ∀ (j k : Nat) (M : List Hd) (out : List Ev), k + j = n → 1 ≤ k → k ≤ stopF n h → Chn k n (lnF n h k) M → ∃ N M', swN N M [(k : Int)] out = some (M', out ++ evsF k (stopF n h)) ∧ M'.length + stopF n h = n + 1 := by
  intro j
  induction j with
  | zero =>
    intro k M out hj h1 hs hM
    obtain rfl : k = n := by omega
    obtain ⟨x, hx, hp, hf⟩ := hM.at_ k (Nat.le_refl _) (Nat.le_refl _)
    unfold lnF at hf
    simp only [Nat.lt_irrefl, if_false, if_true] at hf
    by_cases e : k = h
    · rw [if_pos e] at hf
      obtain ⟨hb, -⟩ := held_eq hf (by omega) (by omega) (by omega)
      have hst : stopF k h = k := by unfold stopF; rw [if_neg (by omega)]; exact e.symm
      refine ⟨2, M, ?_, ?_⟩
      · rw [swN_step, swS_held hx hb, hst, evsF_self]; simp [swN_end]
      · have := hM.len; omega
    · rw [if_neg e] at hf
      obtain ⟨hb, hbag⟩ := held_eq hf (by omega) (by omega) (by omega)
      have hst : stopF k h = k + 1 := by
        unfold stopF at hs ⊢
        split at hs <;> rename_i h0
        · rw [if_pos h0]
        · omega
      have hpe : peerF (rmH k M) x.peer = (rmH k M, []) := by
        have : hfind (rmH k M) 0 = none := (hM.rm (Nat.le_refl _)).no 0 (by omega)
        unfold peerF; rw [hp, this]
      refine ⟨2, rmH k M, ?_, ?_⟩
      · rw [swN_step, swS_end hx hb, hpe, hbag, hst, evsF_step (by omega), evsF_self]
        simp [swN_end]
      · have := (hM.rm (Nat.le_refl _)).len; omega
  | succ j ih =>
    intro k M out hj h1 hs hM
    have hkn : k < n := by omega
    obtain ⟨x, hx, hp, hf⟩ := hM.at_ k (Nat.le_refl _) (by omega)
    unfold lnF at hf
    simp only [if_pos hkn, if_true] at hf
    by_cases e : k = h
    · rw [if_pos e] at hf
      obtain ⟨hb, -⟩ := held_eq hf (by omega) (by omega) (by omega)
      have hst : stopF n h = k := by unfold stopF; rw [if_neg (by omega)]; exact e.symm
      refine ⟨2, M, ?_, ?_⟩
      · rw [swN_step, swS_held hx hb, hst, evsF_self]; simp [swN_end]
      · have := hM.len; omega
    · rw [if_neg e] at hf
      obtain ⟨hb, hbag⟩ := held_eq hf (by omega) (by omega) (by omega)
      have hst : k + 1 ≤ stopF n h := by
        unfold stopF at hs ⊢
        split at hs <;> rename_i h0
        · rw [if_pos h0]; omega
        · rw [if_neg h0]; omega
      have hr := hM.rm (by omega)
      have hpe : peerF (rmH k M) x.peer = (rmH k M, []) := by
        have : hfind (rmH k M) 0 = none := hr.no 0 (by omega)
        unfold peerF; rw [hp, this]
      obtain ⟨y, hy, hyp, hyf⟩ := hr.at_ (k + 1) (Nat.le_refl _) (by omega)
      have hyf' := hyf
      unfold lnF fdOf at hyf'
      simp only [Prod.mk.injEq] at hyf'
      obtain ⟨y1, y2, y3, y4⟩ := hyf'
      rw [if_neg (by omega)] at y3
      have hy' : hfind (rmH k M) ((k : Int) + 1) = some y := by simpa using hy
      have hbg : bagF (rmH k M, []) ((k : Int) + 1) = ({ y with car := 0 } :: rmH ((k + 1 : Nat) : Int) (rmH k M), [((k + 1 : Nat) : Int)]) := by
        unfold bagF
        simp only [hy']
        rw [y3]
        simp [IntKind.wrap_i64]
      have hM2 : Chn (k + 1) n (lnF n h (k + 1)) ({ y with car := 0 } :: rmH ((k + 1 : Nat) : Int) (rmH k M)) := by
        refine (hr.set (y := { y with car := 0 }) (Nat.le_refl _) (by omega) (hfind_id hy).1 hyp).congr fun i h3 h4 => ?_
        by_cases ei : i = k + 1
        · rw [if_pos ei]
          unfold fdOf lnF
          simp only [y1, y2, y4, ei, if_true]
        · rw [if_neg ei]
          unfold lnF
          rw [if_neg (show ¬ i = k from by omega), if_neg ei]
      obtain ⟨N, M', h5, h6⟩ := ih (k + 1) _ (out ++ [⟨(k : Int), true, 0⟩]) (by omega) (by omega) hst hM2
      refine ⟨N + 1, M', ?_, h6⟩
      rw [swN_step, swS_end hx hb, hpe, hbag, List.foldl_cons, List.foldl_nil, hbg, evsF_step (by omega)]
      simp only [List.nil_append]
      rw [h5]
      simp
end
end Go.Proofs.YtbbenmflickapaaDoor
