/- Several texts of this session's own, joined: Mn, Mo, Mp, Mq, Ms, Mu, Mv, Mw. -/
import Derived.Test.YtgkbbihaaichbaaYd
import Derived.Laws.BytesString
import Derived.Laws.BytesArg
import Derived.Test.YtgkbbihaaichbaaYc
set_option maxRecDepth 100000
set_option maxHeartbeats 8000000
namespace Go.Proofs.Ytgkbbihaaichbaa
open Go Go.Jac
/-- What holds while pages are taken away. -/
structure RI (R : Nat → Nat) (cap : Int) (F : List Fr) (pl : PL) (ps : List Int) (F1 : List Fr) (pl1 : PL) : Prop where
  ui : UI R F1 pl1
  kn : Kn pl1
  ok : Pok cap F1
  lk : ∀ q, look pl1 q = if q ∈ ps then none else look pl q
  used : usedF F1 + pl.length = usedF F + pl1.length
  one : ∀ q f, look pl1 q = some f → (fr F1 f).users = 1
theorem RI.nil {R : Nat → Nat} {cap : Int} {F : List Fr} {pl : PL} (ui : UI R F pl) (kn : Kn pl) (ok : Pok cap F) (one : ∀ q f, look pl q = some f → (fr F f).users = 1) : RI R cap F pl [] F pl :=
  ⟨ui, kn, ok, by simp, rfl, one⟩
theorem RI.no {R : Nat → Nat} {cap : Int} {F F1 : List Fr} {pl pl1 : PL} {ps : List Int} {p : Int} (h : RI R cap F pl ps F1 pl1) (hl : look pl1 p = none) : RI R cap F pl (ps ++ [p]) F1 pl1 := by
  refine ⟨h.ui, h.kn, h.ok, fun q => ?_, h.used, h.one⟩
  rw [h.lk q]
  by_cases hq : q = p
  · subst hq
    rw [h.lk q] at hl
    rw [hl]; simp
  · simp [hq]
theorem RI.yes {R : Nat → Nat} {cap : Int} {F F1 : List Fr} {pl pl1 : PL} {ps : List Int} {p : Int} {f : Nat} (h : RI R cap F pl ps F1 pl1) (hl : look pl1 p = some f) : RI R cap F pl (ps ++ [p]) (F1.set f ⟨(fr F1 f).data, (fr F1 f).users - 1⟩) (delP pl1 p) := by
  have hu := h.one p f hl
  have hf := fr_lt (F := F1) (i := f) (by omega)
  obtain ⟨h1, h2⟩ := del_parts h.kn hl
  refine ⟨fun g => ?_, h.kn.del p, ⟨h.ok.mo, by rw [List.length_set]; exact h.ok.len, fun x hx => ?_⟩, fun q => ?_, ?_, fun q g hq => ?_⟩
  · rw [fr_set hf]
    have e1 := h.ui g
    have e2 := h2 g
    by_cases e : g = f
    · subst e
      rw [if_pos rfl] at e2 ⊢
      show (fr F1 g).users - 1 = _
      omega
    · rw [if_neg e]
      rw [if_neg (fun e' => e e'.symm)] at e2
      omega
  · rcases List.mem_or_eq_of_mem_set hx with hx | rfl
    · exact h.ok.us x hx
    · show 0 ≤ (fr F1 f).users - 1 ∧ (fr F1 f).users - 1 ≤ 1000000
      omega
  · rw [look_del, h.lk q]
    by_cases hq : q = p
    · subst hq; simp
    · simp [hq]
  · have e := usedF_set hf (⟨(fr F1 f).data, (fr F1 f).users - 1⟩ : Fr)
    have e3 : us0 F1[f] = false := by rw [us0_fr hf, hu]; rfl
    have e4 : us0 (⟨(fr F1 f).data, (fr F1 f).users - 1⟩ : Fr) = true := by rw [hu]; rfl
    rw [e3, e4] at e
    simp only [Bool.false_eq_true, if_false, if_true] at e
    have := h.used
    omega
  · have hc := cnt_pos hq
    rw [look_del] at hq
    split at hq
    · cases hq
    · have h3 := h.one q g hq
      rw [fr_set hf]
      by_cases e : g = f
      · subst e
        have e1 := h.ui g
        have e2 := h2 g
        rw [if_pos rfl] at e2
        omega
      · rw [if_neg e]; exact h3
section
variable {w0 w : World} {L : List HP} {K : Value → WP} {b : Nat} {last most cap : Int} {F : List Fr} {M : List Vo} {x : Vo}
end
end Go.Proofs.Ytgkbbihaaichbaa

set_option maxRecDepth 100000
set_option maxHeartbeats 8000000
namespace Go.Proofs.Ytgkbbihaaichbaa
open Go Go.Jac
theorem look_in {pl : PL} (hk : Kn pl) {p : Int} {f : Nat} (h : (p, f) ∈ pl) : look pl p = some f := by
  induction pl with
  | nil => cases h
  | cons e r ih =>
    unfold Kn at hk
    rw [List.map_cons, List.nodup_cons] at hk
    rw [look_cons]
    rcases List.mem_cons.1 h with rfl | h
    · simp
    · rw [if_neg (fun (e' : e.1 = p) => hk.1 (List.mem_map.2 ⟨_, h, e'.symm⟩))]
      exact ih hk.2 h
theorem look_key {pl : PL} {q : Int} : look pl q ≠ none ↔ q ∈ pl.map (·.1) := by
  induction pl with
  | nil => simp [look]
  | cons e r ih =>
    rw [look_cons, List.map_cons, List.mem_cons]
    split
    · rename_i h; simp [h]
    · rename_i h
      rw [ih]
      constructor
      · exact .inr
      · rintro (h' | h')
        · exact absurd h'.symm h
        · exact h'
theorem cnt_ex {pl : PL} {f : Nat} (hk : Kn pl) (h : 0 < cnt pl f) : ∃ q, look pl q = some f := by
  unfold cnt at h
  obtain ⟨e, he, hf⟩ := List.countP_pos_iff.1 h
  refine ⟨e.1, look_in hk ?_⟩
  have : e.2 = f := by simpa using hf
  rw [← this]; exact he
theorem pl_len {pl : PL} {ps : List Int} (hk : Kn pl) (hn : ps.Nodup) (h : ∀ q, look pl q ≠ none ↔ q ∈ ps) : pl.length = ps.length := by
  have := ((List.perm_ext_iff_of_nodup hk hn).2 fun q => (look_key (pl := pl) (q := q)).symm.trans (h q)).length_eq
  simpa using this
theorem need_nil (F : List Fr) (ps : List Int) : needF (F, []) ps = ps.length := by
  unfold needF
  exact List.countP_eq_length.2 fun q _ => rfl
theorem pgN_z (N : Nat) : pgN 0 (64 * (N : Int)) = N := by
  unfold pgN
  split <;> omega
/-- What was committed to an object that had nothing. -/
structure CE (cap : Int) (F : List Fr) (M : List Vo) (id : Int) (x : Vo) (N : Nat) (g : Int) (F' : List Fr) (M' : List Vo) (pl' : PL) : Prop where
  vw : VW cap F' M'
  g0 : g = 0 ↔ (usedF F : Int) + N ≤ cap
  eqM : ∀ a, vfind M' a = if a = id then some { x with pl := pl' } else vfind M a
  used : usedF F' = usedF F + if g = 0 then N else 0
  pgs : ∀ q, look pl' q ≠ none → q ∈ pgL 0 (64 * (N : Int))
  len : pl'.length = if g = 0 then N else 0
  one : ∀ q f, look pl' q = some f → (fr F' f).users = 1
  oth : ∀ f, 0 < (fr F f).users → (fr F' f).users = (fr F f).users
section
variable {w0 w : World} {L : List HP} {K : Value → WP} {b : Nat} {last most cap : Int} {F : List Fr} {M : List Vo} {x : Vo}
end
section
variable {w0 w : World} {L : List HP} {K : Value → WP}
end
end Go.Proofs.Ytgkbbihaaichbaa

set_option maxRecDepth 100000
set_option maxHeartbeats 8000000
namespace Go.Proofs.Ytgkbbihaaichbaa
open Go Go.Jac
section
variable {w0 w : World} {L : List HP} {K : Value → WP} {av bv sv : Value} {l : List Int}
theorem conv_ok (h : SeesB w sv l) (k : ∀ s, s = (⟨(l.map fun n => UInt8.ofNat n.toNat).toArray⟩ : ByteArray) → K (.string s) w) : Ex pg (convert 36 9 sv) K w := by
  obtain ⟨p, c, rfl, -, hx⟩ := h
  by_cases hl : l = []
  · subst hl
    refine ⟨_, w, ?_, k _ rfl⟩
    rw [run_convert_bytes_string w 36 9 5 p _ c Try.underlying36 Try.underlying5 Try.underlying9]
    cases p with
    | none => simp [Conv.bytesToString]; rfl
    | some a =>
      rw [List.length_nil, run_bytesToString w a 0 c [] (by have := run_loadCells_list (P := pg) w a [] (fun j v hv => by simp at hv); simpa using this)]
      rfl
  · obtain ⟨a, rfl, hcs⟩ := hx hl
    refine ⟨_, w, ?_, k _ rfl⟩
    rw [run_convert_bytes_string w 36 9 5 (some a) _ c Try.underlying36 Try.underlying5 Try.underlying9, run_bytesToString w a _ c l ?_, foldl_push_bytes]
    · simp [ByteArray.empty, ByteArray.emptyWithCapacity]
      rfl
    · have := run_loadCells_list (P := pg) w a (l.map (Value.int .u8)) (fun j v hj => by
        rw [List.getElem?_map] at hj
        cases hg : l[j]? with
        | none => rw [hg] at hj; cases hj
        | some y =>
          rw [hg] at hj
          obtain rfl := Option.some.inj hj
          exact hcs j y hg)
      simpa using this
theorem streq {t : TypeId} {ox oy : Operand} {a b : ByteArray} (k : K (.bool (a.toList == b.toList)) w) : BinX pg .eql t ox oy (.string a) (.string b) K w := by
  have hg : (eqGuard .eql t ox oy (.string a) (.string b)).run pg w = .ok () w := by unfold eqGuard; rfl
  exact ⟨_, w, by rw [Sem.run_bind, hg, binOp_string_eql]; rfl, k⟩
theorem Same_ok (ha : SeesB w av l) (hb : SeesB w bv l) (k : K (.bool true) w) : Cl pg 17 #[av, bv] K w := by
  refine V.jacinthref07_Same_ok ?_
  unfold V.jacinthref07_Same
  refine conv_ok ha fun s hs => conv_ok hb fun s' hs' => ?_
  refine streq ?_
  rw [hs, hs', beq_self_eq_true]
  exact k
/-- A list of bytes that was there. -/
theorem bytes_of (h : Rd pg w0 36 [sv]) : ∃ l : List Int, l.length ≤ maxLen ∧ SeesBA w0 (Old w0) sv l ∧ (∀ x ∈ l, 0 ≤ x ∧ x ≤ 255) := by
  rcases h.slice Try.underlying36 with e | ⟨a, len, cap, e, hl, hc, hx⟩
  · cases e
    exact ⟨[], Nat.zero_le _, fun L w d => ⟨none, 0, rfl, Nat.le_refl _, fun h => absurd rfl h⟩, by simp⟩
  · cases e
    rw [show pg.cellsOf 5 = 1 from by kernel_rfl] at hx
    have key : ∀ n, n ≤ len → ∃ l : List Int, l.length = n ∧ (∀ j x, l[j]? = some x → w0.cell? (a.add j) = some (.int .u8 x)) ∧ (∀ x ∈ l, 0 ≤ x ∧ x ≤ 255) := by
      intro n
      induction n with
      | zero => exact fun _ => ⟨[], rfl, by simp, by simp⟩
      | succ n ih =>
        intro hn
        obtain ⟨l, h1, h2, h3⟩ := ih (by omega)
        obtain ⟨vs, hv1, hv2, hv3⟩ := hx n (by omega)
        obtain ⟨x, rfl, hwf⟩ := Rd.int Try.underlying5 hv3
        refine ⟨l ++ [x], by simp [h1], fun j y hj => ?_, fun y hy => ?_⟩
        · rcases Nat.lt_trichotomy j n with h | h | h
          · rw [List.getElem?_append_left (by omega)] at hj
            exact h2 j y hj
          · rw [List.getElem?_append_right (by omega), h1, h, Nat.sub_self] at hj
            obtain rfl := Option.some.inj hj
            have := hv2 0 _ rfl
            rw [Addr.add_zero, Nat.mul_one] at this
            rw [h]; exact this
          · rw [List.getElem?_eq_none (by simp; omega)] at hj
            cases hj
        · rcases List.mem_append.1 hy with h | h
          · exact h3 y h
          · rw [List.mem_singleton.1 h]
            simp [Lit.wf, IntKind.min, IntKind.max, IntKind.signed, IntKind.bits] at hwf
            omega
    obtain ⟨l, h1, h2, h3⟩ := key len (Nat.le_refl _)
    refine ⟨l, by omega, fun L w d => ⟨some a, cap, by rw [h1], by omega, fun _ => ⟨a, rfl, fun j x hj => d.oldc (by simp) (h2 j x hj)⟩⟩, h3⟩
end
end Go.Proofs.Ytgkbbihaaichbaa

set_option maxRecDepth 100000
set_option maxHeartbeats 8000000
namespace Go.Proofs.Ytgkbbihaaichbaa
open Go Go.Jac
theorem BaseN.mono {M M' : List Vo} (hM : ∀ a z, vfind M a = some z → vfind M' a = some z) {n : Nat} {x y : Vo} {t : Int} (h : BaseN M n x y t) : BaseN M' n x y t := by
  induction h with
  | z h => exact .z h
  | s h hz _ ih => exact .s h (hM _ _ hz) ih
theorem BaseN.uniq {M : List Vo} {n n' : Nat} {x y y' : Vo} {t t' : Int} (h : BaseN M n x y t) (h' : BaseN M n' x y' t') : n = n' ∧ y = y' ∧ t = t' := by
  induction h generalizing n' y' t' with
  | z h =>
    obtain ⟨a, b, c⟩ := h'.flat h
    exact ⟨a.symm, b.symm, c.symm⟩
  | s h hz _ ih =>
    cases h' with
    | z h2 => rw [h] at h2; cases h2
    | s _ hz2 k2 =>
      rw [hz] at hz2
      obtain rfl := Option.some.inj hz2
      obtain ⟨a, b, c⟩ := ih k2
      exact ⟨by rw [a], b, by rw [c]⟩
/-- Other children. -/
def chV (id : Int) (cv : Value) (ch : List Int) (x : Vo) : Vo := if x.id = id then { x with cv := cv, ch := ch } else x
theorem chV_find {M : List Vo} {id : Int} {y : Vo} (hy : vfind M id = some y) (cv : Value) (ch : List Int) (a : Int) : vfind ({ y with cv := cv, ch := ch } :: rmV id M) a = (vfind M a).map (chV id cv ch) := by
  rw [vfind_upd (y := { y with cv := cv, ch := ch }) (vfind_id hy).1]
  split
  · rename_i e
    subst e
    rw [hy]
    simp [chV, (vfind_id hy).1]
  · rename_i e
    cases hz : vfind M a with
    | none => rfl
    | some z =>
      have := (vfind_id hz).1
      simp only [Option.map_some, chV]
      rw [if_neg (by rw [this]; exact e)]
theorem chV_key {id : Int} {cv : Value} {ch : List Int} {α : Type} (g : Vo → α) (hg : ∀ x : Vo, g { x with cv := cv, ch := ch } = g x) (x : Vo) : g (chV id cv ch x) = g x := by
  unfold chV; split
  · exact hg x
  · rfl
theorem VW.ch {cap : Int} {F : List Fr} {M : List Vo} {id : Int} {y : Vo} {cv : Value} {ch : List Int} (h : VW cap F M) (hy : vfind M id = some y) : VW cap F ({ y with cv := cv, ch := ch } :: rmV id M) := by
  refine h.map (f := chV id cv ch) (chV_find hy cv ch) (h.nd.upd (x := y) (y := { y with cv := cv, ch := ch }) (vfind_id hy).1) (chV_key _ fun _ => rfl) (chV_key _ fun _ => rfl) (chV_key _ fun _ => rfl) (fun a x hx => by rw [chV_key (fun x => x.size) fun _ => rfl]; exact h.sz x (vfind_id hx).2) (chV_key _ fun _ => rfl) (chV_key _ fun _ => rfl) h.ok (fun a x hx => ?_) (fun a x hx e e2 => ?_) fun i => ?_
  · rw [chV_key (fun x => x.pl) fun _ => rfl]; exact h.kn a x hx
  · rw [chV_key (fun x => x.pl) fun _ => rfl]; exact e2
  · rw [h.ui i, tot_cons, tot_rm h.nd hy]
theorem VW.win {cap : Int} {F : List Fr} {M : List Vo} {id p size a : Int} {x : Vo} {c : Nat} (h : VW cap F M) (hno : vfind M id = none) (hp : vfind M p = some x) (hb : ∃ N y t, N < 1000 ∧ BaseN M N x y t) (hd : 0 ≤ x.depth) (hs : 0 ≤ size ∧ size ≤ 4294967296) (ha : 0 ≤ a ∧ a ≤ 4294967296) : VW cap F (winV id size p a (x.depth + 1) c :: M) := by
  have hm : ∀ a' z, vfind M a' = some z → vfind (winV id size p a (x.depth + 1) c :: M) a' = some z := fun a' z hz => by
    rw [vfind_cons, if_neg (fun e => ?_), hz]
    have e : id = a' := e
    rw [← e, hno] at hz; cases hz
  have hc : ∀ a' z, vfind (winV id size p a (x.depth + 1) c :: M) a' = some z → z = winV id size p a (x.depth + 1) c ∨ vfind M a' = some z := fun a' z hz => by
    rw [vfind_cons] at hz
    split at hz
    · exact .inl (Option.some.inj hz).symm
    · exact .inr hz
  refine ⟨?_, h.ok, fun z hz => ?_, fun a' z hz => ?_, fun a' z z' h1 h2 h3 => ?_, fun a' z hz => ?_, fun a' z hz => ?_, fun a' z hz => ?_, fun f => ?_⟩
  · have hn := h.nd
    unfold Nv at hn ⊢
    rw [List.map_cons, List.nodup_cons]
    refine ⟨fun hmm => ?_, hn⟩
    obtain ⟨z, hz, e⟩ := List.mem_map.1 hmm
    have := vfind_mem h.nd hz
    have e : z.id = id := e
    rw [e, hno] at this; cases this
  · rcases List.mem_cons.1 hz with rfl | hz
    · exact hs
    · exact h.sz z hz
  · rcases hc a' z hz with rfl | hz
    · exact ha
    · exact h.frm a' z hz
  · rcases hc a' z h1 with rfl | h1
    · have h3 : vfind (winV id size p a (x.depth + 1) c :: M) p = some z' := h3
      rw [hm _ _ hp] at h3
      obtain rfl := Option.some.inj h3
      exact ⟨hd, by show x.depth < x.depth + 1; omega⟩
    · obtain ⟨N, y, t, _, hbb⟩ := h.base a' z h1
      cases hbb with
      | z h => rw [h] at h2; cases h2
      | s _ hz _ =>
        rw [hm _ _ hz] at h3
        obtain rfl := Option.some.inj h3
        exact h.dep a' z _ h1 h2 hz
  · rcases hc a' z hz with rfl | hz
    · obtain ⟨N, y, t, hN, hbb⟩ := hb
      exact ⟨N + 1, y, _, by omega, .s rfl (hm _ _ hp) (hbb.mono hm)⟩
    · obtain ⟨N, y, t, hN, hbb⟩ := h.base a' z hz
      exact ⟨N, y, t, hN, hbb.mono hm⟩
  · rcases hc a' z hz with rfl | hz
    · exact ⟨fun h => (by cases h), fun _ => rfl⟩
    · exact h.hasf a' z hz
  · rcases hc a' z hz with rfl | hz
    · exact List.nodup_nil
    · exact h.kn a' z hz
  · rw [h.ui f, tot_cons]
    show _ = ((cnt [] f + tot M f : Nat) : Int)
    simp [cnt]
/-- Windows one above the other. -/
structure Dp (j : Nat) (M : List Vo) (x y : Vo) : Prop where
  vw : VW 40 [] M
  len : M.length = j + 1
  no : ∀ id, (j : Int) + 1 < id → vfind M id = none
  ch : ∀ z ∈ M, z.ch.length ≤ 1
  dp : ∀ z ∈ M, 0 ≤ z.depth ∧ z.depth ≤ 16
  x1 : vfind M ((j : Int) + 1) = some x
  xd : x.dr = false
  xs : x.size = 1920 - 64 * (j : Int)
  xp : x.depth = j
  xc : x.ch = []
  xl : x.sl = decide (0 < j)
  y1 : vfind M 1 = some y
  yd : y.dr = false
  yl : y.sl = false
  ys : y.size = 1920
  yp : y.pl = []
  bs : BaseN M j x y (64 * (j : Int))
theorem Dp.zero {fb c : Nat} : Dp 0 [newV 1 1920 fb c] (newV 1 1920 fb c) (newV 1 1920 fb c) :=
  ⟨(VW.nil (by omega)).new rfl (by omega), rfl, fun id h => by rw [vfind_cons, if_neg (fun e => by have e : (1 : Int) = id := e; omega)]; rfl, by simp [newV], by simp [newV], rfl, rfl, by simp [newV], rfl, rfl, rfl, rfl, rfl, rfl, rfl, rfl, .z rfl⟩
theorem Dp.next {j : Nat} {M : List Vo} {x y : Vo} {c : Nat} {v : Value} (h : Dp j M x y) (hj : j < 16) :
    ∃ x' y', Dp (j + 1) (addM M (winV ((j : Int) + 1 + 1) (x.size - 64) ((j : Int) + 1) 64 (x.depth + 1) c) v) x' y' := by
  obtain ⟨X, hX⟩ : ∃ X, X = winV ((j : Int) + 1 + 1) (x.size - 64) ((j : Int) + 1) 64 (x.depth + 1) c := ⟨_, rfl⟩
  have hxs := h.xs
  have hvw := h.vw.win (id := (j : Int) + 1 + 1) (p := (j : Int) + 1) (size := x.size - 64) (a := 64) (c := c) (h.no _ (by omega)) h.x1 ⟨j, y, _, by omega, h.bs⟩ (by rw [h.xp]; omega) (by omega) (by omega)
  rw [← hX] at hvw ⊢
  have Xi : X.id = (j : Int) + 1 + 1 := by rw [hX]; rfl
  have Xp : X.parent = (j : Int) + 1 := by rw [hX]; rfl
  have hf1 : vfind (X :: M) ((j : Int) + 1) = some x := by rw [vfind_cons, if_neg (by omega)]; exact h.x1
  have eM : addM M X v = { x with cv := v, ch := x.ch ++ [X.id] } :: rmV ((j : Int) + 1) (X :: M) := by
    unfold addM
    rw [Xp, h.x1]
  rw [eM]
  have hfind := chV_find hf1 v (x.ch ++ [X.id])
  have hvw' := hvw.ch (cv := v) (ch := x.ch ++ [X.id]) hf1
  have hold : ∀ a z, vfind M a = some z → vfind (X :: M) a = some z := fun a z hz => by
    rw [vfind_cons, if_neg (fun e => ?_), hz]
    rw [← e, Xi, h.no _ (by omega)] at hz; cases hz
  have hXf : chV ((j : Int) + 1) v (x.ch ++ [X.id]) X = X := by
    unfold chV; rw [if_neg (by omega)]
  have hmem : ∀ z ∈ { x with cv := v, ch := x.ch ++ [X.id] } :: rmV ((j : Int) + 1) (X :: M), z = { x with cv := v, ch := x.ch ++ [X.id] } ∨ z = X ∨ z ∈ M := fun z hz => by
    rcases List.mem_cons.1 hz with rfl | hz
    · exact .inl rfl
    · rcases List.mem_cons.1 (rmv_mem.1 hz).1 with rfl | hz
      · exact .inr (.inl rfl)
      · exact .inr (.inr hz)
  refine ⟨X, chV ((j : Int) + 1) v (x.ch ++ [X.id]) y, hvw', ?_, fun id hid => ?_, fun z hz => ?_, fun z hz => ?_, ?_, by rw [hX]; rfl, ?_, ?_, by rw [hX]; rfl, by rw [hX]; simp [winV], ?_, ?_, ?_, ?_, ?_, ?_⟩
  · rw [setv_len (y := { x with cv := v, ch := x.ch ++ [X.id] }) hvw.nd hf1, List.length_cons, h.len]
  · rw [hfind, vfind_cons, if_neg (by omega), h.no id (by omega)]; rfl
  · rcases hmem z hz with rfl | rfl | hz
    · show (x.ch ++ [X.id]).length ≤ 1
      rw [h.xc]; simp
    · rw [hX]; simp [winV]
    · exact h.ch z hz
  · rcases hmem z hz with rfl | rfl | hz
    · show 0 ≤ x.depth ∧ x.depth ≤ 16
      rw [h.xp]; omega
    · rw [hX]
      show 0 ≤ x.depth + 1 ∧ x.depth + 1 ≤ 16
      rw [h.xp]; omega
    · exact h.dp z hz
  · rw [hfind, vfind_cons, if_pos (by rw [Xi]; omega), Option.map_some, hXf]
  · rw [hX]
    show x.size - 64 = _
    omega
  · rw [hX]
    show x.depth + 1 = _
    rw [h.xp]; omega
  · rw [hfind, hold _ _ h.y1]; rfl
  · rw [chV_key (fun x => x.dr) fun _ => rfl]; exact h.yd
  · rw [chV_key (fun x => x.sl) fun _ => rfl]; exact h.yl
  · rw [chV_key (fun x => x.size) fun _ => rfl]; exact h.ys
  · rw [chV_key (fun x => x.pl) fun _ => rfl]; exact h.yp
  · have hb : BaseN (X :: M) (j + 1) X y (64 + 64 * (j : Int)) := by
      have e : X.from_ = 64 := by rw [hX]; rfl
      have hb0 : BaseN (X :: M) (j + 1) X y (X.from_ + 64 * (j : Int)) := .s (by rw [hX]; rfl) (by rw [Xp]; exact hf1) (h.bs.mono hold)
      rwa [e] at hb0
    have hb2 := hb.map hfind (chV_key _ fun _ => rfl) (chV_key _ fun _ => rfl) (chV_key _ fun _ => rfl)
    rw [hXf] at hb2
    rw [show 64 * ((j + 1 : Nat) : Int) = 64 + 64 * (j : Int) from by omega]
    exact hb2
end Go.Proofs.Ytgkbbihaaichbaa

set_option maxRecDepth 100000
set_option maxHeartbeats 800000
namespace Go.Proofs.Ytgkbbihaaichbaa
open Go Go.Jac
theorem Ext_10 {a : Value} {K : Value → WP} {w : World} : Ext (.tuple #[a]) 0 K w = K a w := propext Iff.rfl
section
variable {w0 w : World} {L : List HP} {K : Value → WP} {b m n : Nat} {g : Int → Option Value}
theorem AppSeq_ok {c : Nat} (hn : n ≤ 100000000000) (d : D w0 (cel c 58 [.map (some m)] :: Mp m g n :: L) w)
    (k : ∀ (S : List Int) sv w', S.Nodup → (∀ x, x ∈ S ↔ (g x).isSome = true) → D w0 (Rw 3 1 sv S.length (S.flatMap nI) :: Mp m g n :: L) w' → K sv w') :
    Cl pg 87 #[.slice none 0 0, .func (.func 65) #[] #[.pointer (some ⟨c, 0, none⟩)]] K w := by
  refine V.slices_AppendSeq_int_int_ok ?_
  unfold V.slices_AppendSeq_int_int
  simp only [cells_sl]
  refine d_new _ d fun bo w d => ?_
  refine d_rf0 (fun _ _ => rfl) d fun dm l r0 w hr hp hro d => ?_
  refine V.maps_Keys_c1_map_int_int_int_int_ok ?_
  unfold V.maps_Keys_c1_map_int_int_int_int
  repeat (first | (simp +decide only [SEM]) | (apply ldm d; (focus ((repeat (first | exact .h _ | refine .t _ _ ?_)); done)); (focus rfl)))
  have d := D.sel [4, 0, 2, 3, 1] d
  refine srange_ok Try.underlying58 d fun r mm w d => ?_
  have d0 : D w0 (Rw 3 1 (.slice none 0 0) (List.length ([] : List Int)) (([] : List Int).flatMap nI) :: _) w := ⟨Rw.nil _ _ d.1, d.2⟩
  have d := D.sel [1, 0, 2, 3, 4, 5] d0
  clear d0
  refine ⟨fun vs w => ∃ (S : List Int) (sv : Value) (mm : Nat) (Q : Int → Prop) (cur : Option (Int × Value)), vs = [] ∧ S.Nodup ∧ (∀ x, Q x ↔ x ∈ S) ∧ (∀ x ∈ S, (g x).isSome = true) ∧
    D w0 (Mis r m g n mm Q cur :: Rw 3 1 sv S.length (S.flatMap nI) :: pts l (.loop r0) :: cel bo 22 [sv] :: cel c 58 [.map (some m)] :: pts dm (.deferred (some [])) :: L) w, fun _ w => mitLeft r m w, ⟨[], _, mm, _, none, rfl, by simp, by simp, by simp, d⟩, ?_⟩
  clear d
  rintro _ w ⟨S, sv, mm, Q, cur, rfl, hnd, hQ, hS, d⟩ _
  dsimp only
  rw [Mis.left_eq d]
  obtain ⟨q4, c4, rfl, -⟩ := Rw.shape d.swap.1
  refine snextN_ok d (fun hall w d => ?_) fun m' kk v w hm' hnq hv d => ?_
  · rw [Ext_10]
    repeat (simp +decide only [SEM])
    refine ⟨r0, _, D.sel [2] d, sameLp.refl r0, by rw [hr]; simp, fun w d => ?_⟩
    rw [hp]
    simp only [JumpC]
    repeat (apply ldm d; (focus ((repeat (first | exact .h _ | refine .t _ _ ?_)); done)); (focus rfl))
    refine d_lv1 (D.sel [4] d) fun w d => ?_
    refine k S _ w hnd (fun x => ⟨hS x, fun hx => ?_⟩) ?_
    · obtain ⟨v, hv⟩ := Option.isSome_iff_exists.1 hx
      exact (hQ x).1 (hall x v hv)
    · exact D.swap (Mis.map (D.sel [2, 3] d).tail.tail)
  · repeat (simp +decide only [SEM])
    refine sentry_ok d ?_
    repeat (simp +decide only [SEM])
    have hlen : S.length ≤ n := mp_card (Mis.map d) hnd hS
    refine y_ok (args := [.int .i64 kk]) hro (D.sel [2] d) ?_
    simp only [UN, UNe]
    refine d_beg (D.sel [2] d) hr fun w d => ?_
    repeat (first | (apply ldm d; (focus ((repeat (first | exact .h _ | refine .t _ _ ?_)); done)); (focus rfl)) | refine bsl1 (by first | rfl | (simp only [cells_agg, cells_int, cells_bool, cells_ptr, cells_sl, cells_map, cells_fn, List.drop_succ_cons, List.drop_zero, List.take_succ_cons, List.take_zero, Nat.zero_add, Nat.reduceAdd, Int.toNat_natCast, Int.toNat_zero]; rfl)) rfl d (by decide) (by decide) fun bn w d => ?_)
    refine d_app (m := 1) (D.sel [3] d) (src_of (gc1 (D.sel [3] d)) rfl (ones rfl) 1) rfl (by omega) (by omega) (by omega) (ones rfl) fun sv'' w d => ?_
    obtain ⟨q5, c5, rfl, -⟩ := Rw.shape d.1
    repeat (apply swm d; (focus ((repeat (first | exact .h _ | apply Rp.t)); done)); (focus rfl); (focus rfl); (focus exact ones rfl); intro w d; simp only [SPL] at d)
    refine d_end0 (D.sel [2] d) fun w d => ?_
    rw [loop_eta hr hp] at d
    repeat (simp +decide only [SEM])
    have hkS : kk ∉ S := fun h => hnq ((hQ kk).2 h)
    have e1 : (S ++ [kk]).length = S.length + 1 := by simp
    have e2 : (S ++ [kk]).flatMap nI = S.flatMap nI ++ [.int .i64 kk] := by rw [List.flatMap_append, List.flatMap_singleton]; rfl
    have d : D w0 (Mis r m g n m' (fun x => x = kk ∨ Q x) (some (kk, v)) :: Rw 3 1 (.slice q5 (S.length + 1) c5) (S ++ [kk]).length ((S ++ [kk]).flatMap nI) :: pts l (.loop r0) :: cel bo 22 [.slice q5 (S.length + 1) c5] :: cel c 58 [.map (some m)] :: pts dm (.deferred (some [])) :: L) w := by
      rw [e1, e2]
      exact (D.sel [2, 3, 1, 0] d).tail
    refine ⟨⟨S ++ [kk], _, m', _, _, ?_, ?_, ?_, d⟩, by rw [Mis.left_eq d]; exact hm'⟩
    · rw [List.nodup_append]
      exact ⟨hnd, by simp, fun a ha b hb e => hkS (by rw [List.mem_singleton.1 hb] at e; rw [← e]; exact ha)⟩
    · intro x
      rw [List.mem_append, List.mem_singleton, hQ x]
      exact Or.comm
    · intro x hx
      rcases List.mem_append.1 hx with h | h
      · exact hS x h
      · rw [List.mem_singleton.1 h, hv]; rfl
theorem Sorted_ok {c : Nat} (hn : n ≤ 100000000000) (d : D w0 (cel c 58 [.map (some m)] :: Mp m g n :: L) w)
    (k : ∀ (S : List Int) sv w', S.Nodup → S.Pairwise (· ≤ ·) → (∀ x, x ∈ S ↔ (g x).isSome = true) → D w0 (Rw 3 1 sv S.length (S.flatMap nI) :: Mp m g n :: L) w' → K sv w') :
    Cl pg 36 #[.func (.func 65) #[] #[.pointer (some ⟨c, 0, none⟩)]] K w := by
  refine V.slices_Sorted_int_ok ?_
  unfold V.slices_Sorted_int
  refine fn10 (fun _ _ => rfl) (V.slices_Collect_int_ok ?_)
  unfold V.slices_Collect_int
  refine fn20 (fun _ _ => rfl) (AppSeq_ok hn d fun S sv w hnd hS d => ?_)
  have hlen : S.length ≤ n := mp_card d.swap hnd fun x hx => (hS x).1 hx
  refine fn10 (fun _ _ => rfl) (isort_k (K := fun _ w => K sv w) iLay (by omega) d fun w d => ?_)
  exact k _ sv w ((srt_perm S).nodup_iff.2 hnd) (srt_up S) (fun x => srt_mem.trans (hS x)) d
end
/-- What holds while pages are taken away, whoever else uses their frames. -/
structure RG (R : Nat → Nat) (cap : Int) (F : List Fr) (pl : PL) (P : Int → Prop) (F1 : List Fr) (pl1 : PL) : Prop where
  ui : UI R F1 pl1
  kn : Kn pl1
  ok : Pok cap F1
  gone : ∀ q, P q → look pl1 q = none
  kept : ∀ q, ¬ P q → look pl1 q = look pl q
  dat : ∀ f, (fr F1 f).data = (fr F f).data
theorem RG.nil {R : Nat → Nat} {cap : Int} {F : List Fr} {pl : PL} (ui : UI R F pl) (kn : Kn pl) (ok : Pok cap F) : RG R cap F pl (fun _ => False) F pl :=
  ⟨ui, kn, ok, fun _ h => h.elim, fun _ _ => rfl, fun _ => rfl⟩
theorem RG.no {R : Nat → Nat} {cap : Int} {F F1 : List Fr} {pl pl1 : PL} {P : Int → Prop} {p : Int} (h : RG R cap F pl P F1 pl1) (hl : look pl1 p = none) : RG R cap F pl (fun q => P q ∨ q = p) F1 pl1 :=
  ⟨h.ui, h.kn, h.ok, fun q hq => by
    rcases hq with hq | rfl
    · exact h.gone q hq
    · exact hl, fun q hq => h.kept q fun hp => hq (.inl hp), h.dat⟩
theorem RG.yes {R : Nat → Nat} {cap : Int} {F F1 : List Fr} {pl pl1 : PL} {P : Int → Prop} {p : Int} {f : Nat} (h : RG R cap F pl P F1 pl1) (hl : look pl1 p = some f) : RG R cap F pl (fun q => P q ∨ q = p) (F1.set f ⟨(fr F1 f).data, (fr F1 f).users - 1⟩) (delP pl1 p) := by
  have hu := h.ui.live hl
  have hf := fr_lt (F := F1) (i := f) (by omega)
  obtain ⟨h1, h2⟩ := del_parts h.kn hl
  refine ⟨fun g => ?_, h.kn.del p, ⟨h.ok.mo, by rw [List.length_set]; exact h.ok.len, fun x hx => ?_⟩, fun q hq => ?_, fun q hq => ?_, fun g => ?_⟩
  · rw [fr_set hf]
    have e1 := h.ui g
    have e2 := h2 g
    by_cases e : g = f
    · subst e
      rw [if_pos rfl] at e2 ⊢
      show (fr F1 g).users - 1 = _
      omega
    · rw [if_neg e]
      rw [if_neg (fun e' => e e'.symm)] at e2
      omega
  · rcases List.mem_or_eq_of_mem_set hx with hx | rfl
    · exact h.ok.us x hx
    · have := h.ok.us _ (List.getElem_mem hf)
      rw [← fr_get hf] at this
      show 0 ≤ (fr F1 f).users - 1 ∧ (fr F1 f).users - 1 ≤ 1000000
      omega
  · rw [look_del]
    split
    · rfl
    · rename_i hne
      rcases hq with hq | hq
      · exact h.gone q hq
      · exact absurd hq hne
  · rw [look_del, if_neg (fun e => hq (.inr e))]
    exact h.kept q fun hp => hq (.inl hp)
  · rw [fr_set hf]
    split
    · rename_i e; subst e; exact h.dat _
    · exact h.dat g
theorem RG.to {R : Nat → Nat} {cap : Int} {F F1 : List Fr} {pl pl1 : PL} {P Q : Int → Prop} (h : RG R cap F pl P F1 pl1) (hq : ∀ q, P q ↔ Q q) : RG R cap F pl Q F1 pl1 :=
  ⟨h.ui, h.kn, h.ok, fun q hh => h.gone q ((hq q).2 hh), fun q hh => h.kept q fun hp => hh ((hq q).1 hp), h.dat⟩
theorem RG.as {R : Nat → Nat} {cap : Int} {F F1 : List Fr} {pl pl1 : PL} {P Q : Int → Prop} (h : RG R cap F pl P F1 pl1) (hpq : ∀ q, P q → Q q) (hq : ∀ q, Q q → ¬ P q → look pl q = none) : RG R cap F pl Q F1 pl1 :=
  ⟨h.ui, h.kn, h.ok, fun q hh => by
    by_cases hp : P q
    · exact h.gone q hp
    · rw [h.kept q hp]; exact hq q hh hp, fun q hh => h.kept q fun hp => hh (hpq q hp), h.dat⟩
theorem byt_rg {R : Nat → Nat} {cap c : Int} {F F1 : List Fr} {pl pl1 : PL} (h : RG R cap F pl (fun q => c ≤ q) F1 pl1) (i : Nat) : byt F1 pl1 i = if c ≤ ((i / 64 : Nat) : Int) then 0 else byt F pl i := by
  unfold byt
  by_cases hc : c ≤ ((i / 64 : Nat) : Int)
  · rw [h.gone _ hc, if_pos hc]
  · rw [h.kept _ hc, if_neg hc]
    cases look pl ((i / 64 : Nat) : Int) with
    | none => rfl
    | some f => simp only [h.dat f]
/-- Another size, another table. -/
def spV (id s : Int) (pl : PL) (x : Vo) : Vo := if x.id = id then { x with size := s, pl := pl } else x
theorem spV_find {M : List Vo} {id : Int} {y : Vo} (hy : vfind M id = some y) (s : Int) (pl : PL) (a : Int) : vfind ({ y with size := s, pl := pl } :: rmV id M) a = (vfind M a).map (spV id s pl) := by
  rw [vfind_upd (y := { y with size := s, pl := pl }) (vfind_id hy).1]
  split
  · rename_i e
    subst e
    rw [hy]
    simp [spV, (vfind_id hy).1]
  · rename_i e
    cases hz : vfind M a with
    | none => rfl
    | some z =>
      have := (vfind_id hz).1
      simp only [Option.map_some, spV]
      rw [if_neg (by rw [this]; exact e)]
theorem VW.sp {cap : Int} {F F' : List Fr} {M : List Vo} {id s : Int} {y : Vo} {pl : PL} (h : VW cap F M) (hy : vfind M id = some y) (hf : y.hasf = true) (hs : 0 ≤ s ∧ s ≤ 4294967296) (ok : Pok cap F') (kn : Kn pl) (ui : UI (tot (rmV id M)) F' pl) : VW cap F' ({ y with size := s, pl := pl } :: rmV id M) := by
  have key : ∀ x, ∀ {α : Type} (g : Vo → α), (∀ x : Vo, g { x with size := s, pl := pl } = g x) → g (spV id s pl x) = g x := fun x α g hg => by
    unfold spV; split
    · exact hg x
    · rfl
  refine h.map (f := spV id s pl) (spV_find hy s pl) (h.nd.upd (x := y) (y := { y with size := s, pl := pl }) (vfind_id hy).1) (fun x => key x _ fun _ => rfl) (fun x => key x _ fun _ => rfl) (fun x => key x _ fun _ => rfl) (fun a x hx => ?_) (fun x => key x _ fun _ => rfl) (fun x => key x _ fun _ => rfl) ok (fun a x hx => ?_) (fun a x hx e e2 => ?_) fun i => ?_
  · unfold spV; split
    · exact hs
    · exact h.sz x (vfind_id hx).2
  · unfold spV; split
    · exact kn
    · exact h.kn a x hx
  · unfold spV; split
    · rename_i e3
      have ha := (vfind_id hx).1
      rw [show a = id from by rw [← ha, e3], hy] at hx
      obtain rfl := Option.some.inj hx
      rw [hf] at e; cases e
    · exact e2
  · rw [ui i, tot_cons]
    show _ = ((cnt pl i + tot (rmV id M) i : Nat) : Int)
    omega
section
variable {w0 w : World} {L : List HP} {K : Value → WP} {b : Nat} {last most cap : Int} {F : List Fr} {M : List Vo} {x : Vo}
theorem cfun_nil {q : Option Addr} {c : Nat} {g : Value} (k : K (.bool false) w) : Cl pg 70 #[.slice q 0 c, g] K w := by
  refine V.slices_ContainsFunc_int_int_ok ?_
  unfold V.slices_ContainsFunc_int_int
  refine fn20 (fun _ _ => rfl) (V.slices_IndexFunc_int_int_ok ?_)
  unfold V.slices_IndexFunc_int_int
  simp only [LenS_s]
  refine ⟨fun vs w' => vs = [.int .i64 0, .int .i64 0] ∧ w' = w, fun _ _ => 0, ⟨rfl, rfl⟩, ?_⟩
  rintro _ _ ⟨rfl, rfl⟩ _
  simp only [UN]
  repeat (simp +decide only [SEM])
  exact k
end
end Go.Proofs.Ytgkbbihaaichbaa

set_option maxRecDepth 100000
set_option maxHeartbeats 1600000
namespace Go.Proofs.Ytgkbbihaaichbaa
open Go Go.Jac
/-- The table of a snapshot, behind k pages. -/
def snP (pl : PL) (p0 : Int) : Nat → PL
  | 0 => []
  | k + 1 => match look pl (p0 + k) with
    | some f => ((k : Int), f) :: snP pl p0 k
    | none => snP pl p0 k
theorem look_snP (pl : PL) (p0 : Int) : ∀ (k : Nat) (q : Int), look (snP pl p0 k) q = if 0 ≤ q ∧ q < k then look pl (p0 + q) else none
  | 0, q => by rw [if_neg (by omega)]; rfl
  | k + 1, q => by
    unfold snP
    cases hl : look pl (p0 + k) with
    | none =>
      simp only
      rw [look_snP pl p0 k q]
      by_cases h : q = k
      · subst h; rw [if_neg (by omega), if_pos (by omega), hl]
      · by_cases h2 : 0 ≤ q ∧ q < k
        · rw [if_pos h2, if_pos (by omega)]
        · rw [if_neg h2, if_neg (by omega)]
    | some f =>
      simp only [look_cons]
      rw [look_snP pl p0 k q]
      by_cases h : (k : Int) = q
      · subst h; rw [if_pos rfl, if_pos (by omega), hl]
      · rw [if_neg h]
        by_cases h2 : 0 ≤ q ∧ q < k
        · rw [if_pos h2, if_pos (by omega)]
        · rw [if_neg h2, if_neg (by omega)]
theorem kn_snP (pl : PL) (p0 : Int) : ∀ k, Kn (snP pl p0 k)
  | 0 => List.nodup_nil
  | k + 1 => by
    unfold snP
    cases hl : look pl (p0 + k) with
    | none => exact kn_snP pl p0 k
    | some f =>
      unfold Kn
      rw [List.map_cons, List.nodup_cons]
      refine ⟨fun h => ?_, kn_snP pl p0 k⟩
      have h1 := look_snP pl p0 k k
      rw [if_neg (by omega)] at h1
      obtain ⟨e, he, h2⟩ := List.mem_map.1 h
      exact look_none h1 e he h2
/-- Frames while a snapshot takes part in them. -/
structure SnF (F : List Fr) (npl : PL) (F1 : List Fr) : Prop where
  us : ∀ f, (fr F1 f).users = (fr F f).users + cnt npl f
  dat : ∀ f, (fr F1 f).data = (fr F f).data
  len : F1.length = F.length
  used : usedF F1 = usedF F
theorem SnF.nil (F : List Fr) : SnF F [] F := ⟨fun f => by simp [cnt], fun _ => rfl, rfl, rfl⟩
theorem SnF.more {F F1 : List Fr} {npl : PL} {f : Nat} {q : Int} (h : SnF F npl F1) (hf : 1 ≤ (fr F f).users) : SnF F ((q, f) :: npl) (F1.set f ⟨(fr F1 f).data, (fr F1 f).users + 1⟩) := by
  have hu := h.us f
  have hlt := fr_lt (F := F1) (i := f) (by omega)
  refine ⟨fun g => ?_, fun g => ?_, by rw [List.length_set]; exact h.len, ?_⟩
  · rw [fr_set hlt, cnt_cons]
    have := h.us g
    by_cases e : g = f
    · subst e
      rw [if_pos rfl, if_pos rfl]
      show (fr F1 g).users + 1 = _
      omega
    · rw [if_neg e, if_neg (fun e' => e e'.symm)]
      omega
  · rw [fr_set hlt]
    split
    · rename_i e; subst e; exact h.dat _
    · exact h.dat g
  · have e := usedF_set hlt (⟨(fr F1 f).data, (fr F1 f).users + 1⟩ : Fr)
    have e3 : us0 F1[f] = false := by rw [us0_fr hlt]; simp; omega
    have e4 : us0 (⟨(fr F1 f).data, (fr F1 f).users + 1⟩ : Fr) = false := by
      show decide ((fr F1 f).users + 1 = 0) = false
      exact decide_eq_false (by omega)
    rw [e3, e4] at e
    simp only [Bool.false_eq_true, if_false] at e
    have := h.used
    omega
theorem VW.newG {cap : Int} {F : List Fr} {M : List Vo} {Y : Vo} (h : VW cap F M) (hno : vfind M Y.id = none) (hs : 0 ≤ Y.size ∧ Y.size ≤ 4294967296) (h1 : Y.sl = false) (h2 : Y.hasf = true) (h3 : Y.pl = []) (h4 : Y.from_ = 0) : VW cap F (Y :: M) := by
  have hm : ∀ a z, vfind M a = some z → vfind (Y :: M) a = some z := fun a z hz => by
    rw [vfind_cons, if_neg (fun e => ?_), hz]
    rw [← e, hno] at hz; cases hz
  have hc : ∀ a z, vfind (Y :: M) a = some z → z = Y ∨ vfind M a = some z := fun a z hz => by
    rw [vfind_cons] at hz
    split at hz
    · exact .inl (Option.some.inj hz).symm
    · exact .inr hz
  refine ⟨?_, h.ok, fun x hx => ?_, fun a x hx => ?_, fun a z z' h1' h2' h3' => ?_, fun a x hx => ?_, fun a x hx => ?_, fun a x hx => ?_, fun f => ?_⟩
  · have hn := h.nd
    unfold Nv at hn ⊢
    rw [List.map_cons, List.nodup_cons]
    refine ⟨fun hmm => ?_, hn⟩
    obtain ⟨z, hz, e⟩ := List.mem_map.1 hmm
    have := vfind_mem h.nd hz
    rw [e, hno] at this; cases this
  · rcases List.mem_cons.1 hx with rfl | hx
    · exact hs
    · exact h.sz x hx
  · rcases hc a x hx with rfl | hx
    · rw [h4]; omega
    · exact h.frm a x hx
  · rcases hc a z h1' with rfl | h1'
    · rw [h1] at h2'; cases h2'
    · obtain ⟨N, y, t, _, hbb⟩ := h.base a z h1'
      cases hbb with
      | z h => rw [h] at h2'; cases h2'
      | s _ hz _ =>
        rw [hm _ _ hz] at h3'
        obtain rfl := Option.some.inj h3'
        exact h.dep a z _ h1' h2' hz
  · rcases hc a x hx with rfl | hx
    · exact ⟨0, _, 0, by omega, .z h1⟩
    · obtain ⟨N, y, t, hN, hbb⟩ := h.base a x hx
      exact ⟨N, y, t, hN, hbb.mono hm⟩
  · rcases hc a x hx with rfl | hx
    · exact ⟨fun _ => h2, fun _ => h3⟩
    · exact h.hasf a x hx
  · rcases hc a x hx with rfl | hx
    · rw [h3]; exact List.nodup_nil
    · exact h.kn a x hx
  · rw [h.ui f, tot_cons, h3]
    simp [cnt]
end Go.Proofs.Ytgkbbihaaichbaa

set_option maxRecDepth 100000
set_option maxHeartbeats 1600000
namespace Go.Proofs.Ytgkbbihaaichbaa
open Go Go.Jac
/-- A snapshot. -/
def snV (id size parent : Int) (fb blk : Nat) (pl : PL) : Vo := ⟨id, size, parent, true, fb, pl, .slice none 0 0, [], false, 0, 0, false, blk⟩
theorem snP_len (pl : PL) (p0 : Int) : ∀ k, (snP pl p0 k).length ≤ k
  | 0 => Nat.le_refl _
  | k + 1 => by
    have := snP_len pl p0 k
    unfold snP
    cases look pl (p0 + k) with
    | none => show (snP pl p0 k).length ≤ k + 1; omega
    | some f => simp only [List.length_cons]; omega
theorem rmv_comm (M : List Vo) (a b : Int) : rmV a (rmV b M) = rmV b (rmV a M) := by
  unfold rmV
  rw [List.filter_filter, List.filter_filter]
  apply List.filter_congr
  intro x _
  exact Bool.and_comm _ _
section
variable {w0 w : World} {L : List HP} {K : Value → WP} {b : Nat} {last most cap : Int} {F : List Fr} {M : List Vo}
end
end Go.Proofs.Ytgkbbihaaichbaa

set_option maxRecDepth 100000
set_option maxHeartbeats 1600000
namespace Go.Proofs.Ytgkbbihaaichbaa
open Go Go.Jac
theorem VW.snap {cap : Int} {F F' : List Fr} {M : List Vo} {id n last : Int} {x : Vo} {fb c : Nat} {v : Value} {npl : PL} (h : VW cap F M) (hx : vfind M id = some x) (hno : vfind M (last + 1) = none) (hs : 0 ≤ n ∧ n ≤ 4294967296) (hsn : SnF F npl F') (hk : Kn npl) (hus : ∀ f, (fr F' f).users ≤ 1000000) :
    VW cap F' (snV (last + 1) n id fb c npl :: rmV (last + 1) (addM M (snV (last + 1) n id fb c []) v)) := by
  have hl1 : id ≠ last + 1 := fun e => by rw [← e, hx] at hno; cases hno
  have h1 := h.newG (Y := snV (last + 1) n id fb c []) hno hs rfl rfl rfl rfl
  have hf0 : vfind (snV (last + 1) n id fb c [] :: M) id = some x := by rw [vfind_cons, if_neg (fun e => hl1 e.symm)]; exact hx
  have eM : addM M (snV (last + 1) n id fb c []) v = { x with cv := v, ch := x.ch ++ [last + 1] } :: rmV id (snV (last + 1) n id fb c [] :: M) := by
    unfold addM
    rw [show (snV (last + 1) n id fb c []).parent = id from rfl, hx]
    rfl
  have h2 := h1.ch (cv := v) (ch := x.ch ++ [last + 1]) hf0
  rw [← eM] at h2
  have hfY : vfind (addM M (snV (last + 1) n id fb c []) v) (last + 1) = some (snV (last + 1) n id fb c []) := by
    rw [eM, vfind_upd (y := { x with cv := v, ch := x.ch ++ [last + 1] }) (vfind_id hx).1, if_neg (fun e => hl1 e.symm), vfind_cons, if_pos (show (snV (last + 1) n id fb c []).id = last + 1 from rfl)]
  refine h2.pl (pl := npl) hfY rfl ⟨h.ok.mo, by rw [hsn.len]; exact h.ok.len, fun z hz => ?_⟩ hk fun f => ?_
  · obtain ⟨i, hi, rfl⟩ := List.getElem_of_mem hz
    have h3 := hus i
    have h4 := hsn.us i
    have h5 := h.ui i
    rw [fr_get hi] at h3 h4
    omega
  · have h3 := h2.ui f
    rw [tot_rm h2.nd hfY] at h3
    have h4 := hsn.us f
    have h5 : cnt (snV (last + 1) n id fb c []).pl f = 0 := rfl
    omega
theorem VW.slice {cap : Int} {F : List Fr} {M : List Vo} {id n a last : Int} {x : Vo} {c : Nat} {v : Value} (h : VW cap F M) (hx : vfind M id = some x) (hno : vfind M (last + 1) = none) (hb : ∃ N y t, N < 1000 ∧ BaseN M N x y t) (hd : 0 ≤ x.depth) (hs : 0 ≤ n ∧ n ≤ 4294967296) (ha : 0 ≤ a ∧ a ≤ 4294967296) :
    VW cap F (addM M (winV (last + 1) n id a (x.depth + 1) c) v) := by
  have hl1 : id ≠ last + 1 := fun e => by rw [← e, hx] at hno; cases hno
  have h1 := h.win (c := c) hno hx hb hd hs ha
  have hf0 : vfind (winV (last + 1) n id a (x.depth + 1) c :: M) id = some x := by rw [vfind_cons, if_neg (fun e => hl1 e.symm)]; exact hx
  have eM : addM M (winV (last + 1) n id a (x.depth + 1) c) v = { x with cv := v, ch := x.ch ++ [last + 1] } :: rmV id (winV (last + 1) n id a (x.depth + 1) c :: M) := by
    unfold addM
    rw [show (winV (last + 1) n id a (x.depth + 1) c).parent = id from rfl, hx]
    rfl
  rw [eM]
  exact h1.ch (cv := v) (ch := x.ch ++ [last + 1]) hf0
end Go.Proofs.Ytgkbbihaaichbaa
