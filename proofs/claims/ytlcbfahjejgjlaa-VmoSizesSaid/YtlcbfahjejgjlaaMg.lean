/- Memory: tables of pages, who uses frames: the plain law of committing. -/
import Derived.Test.YtlcbfahjejgjlaaMf
set_option maxRecDepth 100000
namespace Go.Proofs.Ytlcbfahjejgjlaa
open Go Go.Jac
abbrev PL := List (Int × Nat)
/-- A page's frame is another one. -/
def setP (pl : PL) (p : Int) (g : Nat) : PL := match look pl p with
  | none => (p, g) :: pl
  | some _ => pl.map fun e => if e.1 = p then (p, g) else e
def delP (pl : PL) (p : Int) : PL := pl.filter fun e => decide (e.1 ≠ p)
def Kn (pl : PL) : Prop := (pl.map (·.1)).Nodup
/-- How often a frame stands there. -/
def cnt (pl : PL) (f : Nat) : Nat := pl.countP fun e => e.2 == f
theorem look_cons (e : Int × Nat) (pl : PL) (p : Int) : look (e :: pl) p = if e.1 = p then some e.2 else look pl p := by
  unfold look
  rw [List.find?_cons]
  by_cases h : e.1 = p <;> simp [h]
theorem cnt_cons (e : Int × Nat) (pl : PL) (f : Nat) : cnt (e :: pl) f = cnt pl f + if e.2 = f then 1 else 0 := by
  unfold cnt
  rw [List.countP_cons]
  by_cases h : e.2 = f <;> simp [h]
theorem look_none {pl : PL} {p : Int} (h : look pl p = none) : ∀ e ∈ pl, e.1 ≠ p := by
  unfold look at h
  rw [Option.map_eq_none_iff, List.find?_eq_none] at h
  intro e he
  simpa using h e he
theorem look_mem {pl : PL} {p : Int} {f : Nat} (h : look pl p = some f) : (p, f) ∈ pl := by
  unfold look at h
  obtain ⟨e, he, rfl⟩ := Option.map_eq_some_iff.1 h
  have h1 := List.find?_some he
  have h2 := List.mem_of_find?_eq_some he
  have : e.1 = p := by simpa using h1
  rw [← this]; exact h2
theorem cnt_pos {pl : PL} {p : Int} {f : Nat} (h : look pl p = some f) : 0 < cnt pl f := by
  unfold cnt
  exact List.countP_pos_iff.2 ⟨_, look_mem h, by simp⟩
theorem map_id_of {pl : PL} {p : Int} {g : Nat} (h : ∀ e ∈ pl, e.1 ≠ p) : (pl.map fun e => if e.1 = p then (p, g) else e) = pl := by
  have : ∀ e ∈ pl, (fun e : Int × Nat => if e.1 = p then (p, g) else e) e = id e := fun e he => if_neg (h e he)
  rw [List.map_congr_left this, List.map_id]
theorem look_repl {pl : PL} {p : Int} {g f : Nat} (h : look pl p = some f) (q : Int) : look (pl.map fun e => if e.1 = p then (p, g) else e) q = if q = p then some g else look pl q := by
  induction pl with
  | nil => simp [look] at h
  | cons e r ih =>
    rw [List.map_cons, look_cons, look_cons]
    rw [look_cons] at h
    by_cases he : e.1 = p
    · rw [if_pos he]
      by_cases hq : q = p
      · subst hq; simp
      · rw [if_neg (fun h => hq h.symm), if_neg hq, if_neg (by rw [he]; exact fun h => hq h.symm)]
        cases hr : look r p with
        | none => rw [map_id_of (look_none hr)]
        | some f' => 
          have : ∀ (r : PL), look (r.map fun e => if e.1 = p then (p, g) else e) q = look r q := by
            intro r
            induction r with
            | nil => rfl
            | cons e r ih =>
              rw [List.map_cons, look_cons, look_cons, ih]
              by_cases h1 : e.1 = p
              · rw [if_pos h1, if_neg (fun h => hq h.symm), if_neg (by rw [h1]; exact fun h => hq h.symm)]
              · rw [if_neg h1]
          exact this r
    · rw [if_neg he] at h ⊢
      by_cases hq : q = p
      · subst hq
        rw [if_neg he, if_pos rfl, ih h, if_pos rfl]
      · rw [ih h, if_neg hq, if_neg hq]
theorem look_set (pl : PL) (p : Int) (g : Nat) (q : Int) : look (setP pl p g) q = if q = p then some g else look pl q := by
  unfold setP
  cases h : look pl p with
  | none =>
    simp only [look_cons]
    by_cases e : q = p
    · subst e; simp
    · rw [if_neg (fun h => e h.symm), if_neg e]
  | some f => exact look_repl h q
theorem fgM_set (pl : PL) (p : Int) (g : Nat) : fgM (setP pl p g) = upd (fgM pl) p (.int .i64 (g : Int)) := by
  funext q
  unfold fgM upd
  rw [look_set]
  by_cases e : q = p
  · subst e; simp
  · rw [if_neg e, if_neg e]
theorem setP_len (pl : PL) (p : Int) (g : Nat) : (setP pl p g).length = if (fgM pl p).isSome then pl.length else pl.length + 1 := by
  unfold setP fgM
  cases h : look pl p <;> simp
theorem Kn.set {pl : PL} (h : Kn pl) (p : Int) (g : Nat) : Kn (setP pl p g) := by
  unfold setP
  cases hl : look pl p with
  | none =>
    unfold Kn at *
    rw [List.map_cons, List.nodup_cons]
    refine ⟨fun hm => ?_, h⟩
    obtain ⟨e, he, h1⟩ := List.mem_map.1 hm
    exact look_none hl e he h1
  | some f =>
    unfold Kn at *
    rw [List.map_map]
    have : (pl.map ((fun e : Int × Nat => e.1) ∘ fun e => if e.1 = p then (p, g) else e)) = pl.map (·.1) := by
      apply List.map_congr_left
      intro e _
      simp only [Function.comp]
      split
      · rename_i h; exact h.symm
      · rfl
    rw [this]; exact h
theorem cnt_set_new {pl : PL} {p : Int} (g : Nat) (h : look pl p = none) (f : Nat) : cnt (setP pl p g) f = cnt pl f + if g = f then 1 else 0 := by
  unfold setP; rw [h]; exact cnt_cons _ _ _
theorem cnt_set_old {pl : PL} {p : Int} {f0 : Nat} (g : Nat) (hk : Kn pl) (h : look pl p = some f0) (f : Nat) : cnt (setP pl p g) f + (if f0 = f then 1 else 0) = cnt pl f + if g = f then 1 else 0 := by
  unfold setP; rw [h]
  simp only
  induction pl with
  | nil => simp [look] at h
  | cons e r ih =>
    unfold Kn at hk
    rw [List.map_cons, List.nodup_cons] at hk
    rw [look_cons] at h
    rw [List.map_cons, cnt_cons, cnt_cons]
    by_cases he : e.1 = p
    · rw [if_pos he] at h ⊢
      obtain rfl := Option.some.inj h
      have : (r.map fun e => if e.1 = p then (p, g) else e) = r := map_id_of fun x hx hxp => hk.1 (List.mem_map.2 ⟨x, hx, by rw [hxp, he]⟩)
      rw [this]
      simp only
      omega
    · rw [if_neg he] at h ⊢
      have := ih hk.2 h
      omega
theorem look_del (pl : PL) (p q : Int) : look (delP pl p) q = if q = p then none else look pl q := by
  unfold look delP
  rw [List.find?_filter]
  split
  · rename_i h
    subst h
    rw [Option.map_eq_none_iff, List.find?_eq_none]
    intro x _; simp
  · rename_i h
    congr 2
    funext x
    by_cases hx : x.1 = q
    · simp [hx, h]
    · simp [hx]
theorem Kn.del {pl : PL} (h : Kn pl) (p : Int) : Kn (delP pl p) := by
  unfold Kn delP at *
  exact List.Nodup.sublist ((List.filter_sublist).map _) h
theorem del_parts {pl : PL} {p : Int} {f0 : Nat} (hk : Kn pl) (h : look pl p = some f0) : (delP pl p).length + 1 = pl.length ∧ ∀ f, cnt (delP pl p) f + (if f0 = f then 1 else 0) = cnt pl f := by
  induction pl with
  | nil => simp [look] at h
  | cons e r ih =>
    unfold Kn at hk
    rw [List.map_cons, List.nodup_cons] at hk
    rw [look_cons] at h
    by_cases he : e.1 = p
    · rw [if_pos he] at h
      obtain rfl := Option.some.inj h
      have e1 : delP (e :: r) p = r := by
        unfold delP
        rw [List.filter_cons_of_neg (by simp [he])]
        exact List.filter_eq_self.2 fun x hx => by
          simp only [decide_eq_true_eq]
          exact fun hxp => hk.1 (List.mem_map.2 ⟨x, hx, by rw [hxp, he]⟩)
      rw [e1]
      exact ⟨rfl, fun f => (cnt_cons e r f).symm⟩
    · rw [if_neg he] at h
      have e1 : delP (e :: r) p = e :: delP r p := by
        unfold delP
        rw [List.filter_cons_of_pos (by simp [he])]
      obtain ⟨h1, h2⟩ := ih hk.2 h
      rw [e1]
      refine ⟨by simp only [List.length_cons]; omega, fun f => ?_⟩
      rw [cnt_cons, cnt_cons, ← h2 f]
      omega
theorem fgM_del (pl : PL) (p : Int) : fgM (delP pl p) = del (fgM pl) p := by
  funext q
  unfold fgM del
  rw [look_del]
  by_cases e : q = p
  · subst e; simp
  · rw [if_neg e, if_neg e]
/-- A byte of an object. -/
def byt (F : List Fr) (pl : PL) (i : Nat) : Int := match look pl ((i / 64 : Nat) : Int) with
  | none => 0
  | some f => (fr F f).data (i % 64)
/-- Who uses frames: R: the others. -/
def UI (R : Nat → Nat) (F : List Fr) (pl : PL) : Prop := ∀ f, (fr F f).users = (R f : Int) + cnt pl f
theorem UI.live {R : Nat → Nat} {F : List Fr} {pl : PL} (h : UI R F pl) {p : Int} {f : Nat} (hl : look pl p = some f) : 1 ≤ (fr F f).users := by
  have := cnt_pos hl
  rw [h f]; omega
def needP (F : List Fr) (pl : PL) (p : Int) : Bool := match look pl p with
  | none => true
  | some f => decide (1 < (fr F f).users)
/-- One page more that is committed. -/
def cm1 (s : List Fr × PL) (p : Int) : List Fr × PL := match look s.2 p with
  | none => (alF s.1, setP s.2 p (gF s.1))
  | some f => if 1 < (fr s.1 f).users then (owF s.1 f, setP s.2 p (gF s.1)) else (s.1, setP s.2 p f)
structure CS (R : Nat → Nat) (cap : Int) (s t : List Fr × PL) : Prop where
  ui : UI R t.1 t.2
  kn : Kn t.2
  ok : Pok cap t.1
  dat : ∀ f, 0 < R f → (fr t.1 f).data = (fr s.1 f).data
  byt : ∀ i, byt t.1 t.2 i = byt s.1 s.2 i
theorem CS.refl {R : Nat → Nat} {cap : Int} {s : List Fr × PL} (h1 : UI R s.1 s.2) (h2 : Kn s.2) (h3 : Pok cap s.1) : CS R cap s s := ⟨h1, h2, h3, fun _ _ => rfl, fun _ => rfl⟩
theorem CS.trans {R : Nat → Nat} {cap : Int} {s t u : List Fr × PL} (h : CS R cap s t) (k : CS R cap t u) : CS R cap s u :=
  ⟨k.ui, k.kn, k.ok, fun f hf => (k.dat f hf).trans (h.dat f hf), fun i => (k.byt i).trans (h.byt i)⟩
theorem alF_ok {cap : Int} {F : List Fr} (ok : Pok cap F) (hr : (usedF F : Int) < cap) : Pok cap (alF F) := by
  refine ⟨ok.mo, ?_, fun x hx => ?_⟩
  · unfold alF
    split
    · rw [List.length_set]; exact ok.len
    · rename_i h
      have := full_used F h
      rw [List.length_append, List.length_singleton]
      omega
  · unfold alF at hx
    split at hx
    · rcases List.mem_or_eq_of_mem_set hx with h | h
      · exact ok.us x h
      · subst h; unfold fnew; simp
    · rcases List.mem_append.1 hx with h | h
      · exact ok.us x h
      · rw [List.mem_singleton.1 h]; unfold fnew; simp
theorem owF_ok {cap : Int} {F : List Fr} {i : Nat} (ok : Pok cap F) (hr : (usedF F : Int) < cap) (hu : 1 < (fr F i).users) : Pok cap (owF F i) := by
  have h1 := alF_ok ok hr
  have hi := fr_lt (F := F) (i := i) (by omega)
  have hb := ok.us _ (List.getElem_mem hi)
  rw [← fr_get hi] at hb
  refine ⟨ok.mo, by unfold owF; rw [List.length_set, List.length_set]; exact h1.len, fun x hx => ?_⟩
  unfold owF at hx
  rcases List.mem_or_eq_of_mem_set hx with h | h
  · rcases List.mem_or_eq_of_mem_set h with h | h
    · exact h1.us x h
    · subst h; simp
  · subst h; simp only; omega
theorem cm1_step {R : Nat → Nat} {cap : Int} {s : List Fr × PL} {p : Int} (hu : UI R s.1 s.2) (hk : Kn s.2) (ok : Pok cap s.1) (hr : needP s.1 s.2 p = true → (usedF s.1 : Int) < cap) :
    CS R cap s (cm1 s p) ∧ (∀ q, look (cm1 s p).2 q ≠ none ↔ q = p ∨ look s.2 q ≠ none) ∧ (usedF (cm1 s p).1 = usedF s.1 + if needP s.1 s.2 p then 1 else 0) ∧ (∃ f, look (cm1 s p).2 p = some f ∧ (fr (cm1 s p).1 f).users = 1) ∧
      (∀ q, q ≠ p → look (cm1 s p).2 q = look s.2 q) ∧ (∀ q f, q ≠ p → look s.2 q = some f → (fr (cm1 s p).1 f).users ≤ (fr s.1 f).users) := by
  obtain ⟨F, pl⟩ := s
  simp only at hu hk ok hr
  have hg0 := gF_free F
  have hgR : R (gF F) = 0 ∧ cnt pl (gF F) = 0 := by have := hu (gF F); omega
  have hgl : ∀ q f, look pl q = some f → f ≠ gF F := fun q f h e => by have := cnt_pos h; rw [e] at this; omega
  unfold cm1 needP at *
  simp only
  cases hl : look pl p with
  | none =>
    rw [hl] at hr
    simp only at hr ⊢
    have hr := hr trivial
    refine ⟨⟨fun f => ?_, hk.set _ _, alF_ok ok hr, fun f hf => ?_, fun i => ?_⟩, fun q => ?_, ?_, ⟨gF F, by rw [look_set, if_pos rfl], by rw [fr_al, if_pos rfl]; rfl⟩, fun q hq => by rw [look_set, if_neg hq], fun q f hq hf => ?_⟩
    · show (fr (alF F) f).users = (R f : Int) + cnt (setP pl p (gF F)) f
      rw [cnt_set_new _ hl, fr_al]
      by_cases e : f = gF F
      · subst e; rw [if_pos rfl, if_pos rfl]; unfold fnew; simp only; omega
      · rw [if_neg e, if_neg (fun h => e h.symm)]; exact hu f
    · show (fr (alF F) f).data = (fr F f).data
      rw [fr_al, if_neg (fun e => by rw [e] at hf; omega)]
    · show byt (alF F) (setP pl p (gF F)) i = byt F pl i
      unfold byt
      rw [look_set]
      by_cases e : ((i / 64 : Nat) : Int) = p
      · rw [if_pos e, e, hl]
        simp only
        rw [fr_al, if_pos rfl]; rfl
      · rw [if_neg e]
        cases hq : look pl ((i / 64 : Nat) : Int) with
        | none => rfl
        | some f =>
          simp only
          rw [fr_al, if_neg (hgl _ _ hq)]
    · rw [look_set]
      by_cases e : q = p
      · simp [e]
      · simp [e]
    · rw [alF_used]; rfl
    · rw [fr_al, if_neg (hgl _ _ hf)]
      exact Int.le_refl _
  | some f0 =>
    rw [hl] at hr
    simp only at hr ⊢
    have hlv := hu.live hl
    by_cases h1 : 1 < (fr F f0).users
    · simp only [if_pos h1, decide_eq_true h1, if_true]
      have hr := hr (decide_eq_true h1)
      have hne : f0 ≠ gF F := hgl _ _ hl
      have hfo := fr_ow (F := F) (i := f0) (by omega)
      refine ⟨⟨fun f => ?_, hk.set _ _, owF_ok ok hr h1, fun f hf => ?_, fun i => ?_⟩, fun q => ?_, ow_used h1, ⟨gF F, by rw [look_set, if_pos rfl], by rw [hfo, if_neg (fun e => hne e.symm), if_pos rfl]⟩, fun q hq => by rw [look_set, if_neg hq], fun q f hq hf => ?_⟩
      · show (fr (owF F f0) f).users = (R f : Int) + cnt (setP pl p (gF F)) f
        have hcs := cnt_set_old (gF F) hk hl f
        rw [hfo]
        by_cases e : f = f0
        · subst e
          rw [if_pos rfl, if_neg (fun h => hne h.symm)] at hcs
          rw [if_pos rfl]
          have := hu f
          simp only
          omega
        · rw [if_neg (fun h => e h.symm)] at hcs
          rw [if_neg e]
          by_cases e2 : f = gF F
          · subst e2
            rw [if_pos rfl] at hcs
            rw [if_pos rfl]
            simp only
            omega
          · rw [if_neg (fun h => e2 h.symm)] at hcs
            rw [if_neg e2, hu f]
            omega
      · show (fr (owF F f0) f).data = (fr F f).data
        rw [hfo]
        by_cases e : f = f0
        · subst e; rw [if_pos rfl]
        · rw [if_neg e, if_neg (fun e => by rw [e] at hf; omega)]
      · show byt (owF F f0) (setP pl p (gF F)) i = byt F pl i
        unfold byt
        rw [look_set]
        by_cases e : ((i / 64 : Nat) : Int) = p
        · rw [if_pos e, e, hl]
          simp only
          rw [hfo, if_neg (fun e => hne e.symm), if_pos rfl]
        · rw [if_neg e]
          cases hq : look pl ((i / 64 : Nat) : Int) with
          | none => rfl
          | some f =>
            simp only
            rw [hfo, if_neg (hgl _ _ hq)]
            split
            · rename_i e; subst e; rfl
            · rfl
      · rw [look_set]
        by_cases e : q = p
        · simp [e]
        · simp [e]
      · rw [hfo, if_neg (hgl _ _ hf)]
        split
        · rename_i e; subst e; simp only; omega
        · exact Int.le_refl _
    · simp only [if_neg h1, decide_eq_false h1, Bool.false_eq_true, if_false, Nat.add_zero]
      have hlook : ∀ q, look (setP pl p f0) q = look pl q := fun q => by
        rw [look_set]
        split
        · rename_i e; rw [e, hl]
        · rfl
      refine ⟨⟨fun f => ?_, hk.set _ _, ok, fun f hf => rfl, fun i => ?_⟩, fun q => ?_, trivial, ⟨f0, by rw [hlook, hl], by omega⟩, fun q _ => hlook q, fun q f hq hf => Int.le_refl _⟩
      · show (fr F f).users = (R f : Int) + cnt (setP pl p f0) f
        have hcs := cnt_set_old f0 hk hl f
        rw [hu f]; omega
      · show byt F (setP pl p f0) i = byt F pl i
        unfold byt
        rw [hlook]
      · show look (setP pl p f0) q ≠ none ↔ _
        rw [hlook]
        constructor
        · exact .inr
        · rintro (h | h)
          · rw [h, hl]; simp
          · exact h
def needF (s : List Fr × PL) (ps : List Int) : Nat := ps.countP fun p => needP s.1 s.2 p
theorem need_le {R : Nat → Nat} {cap : Int} {s : List Fr × PL} {p : Int} (hu : UI R s.1 s.2) (hk : Kn s.2) (ok : Pok cap s.1) (hr : needP s.1 s.2 p = true → (usedF s.1 : Int) < cap) {ps : List Int} (hp : p ∉ ps) : needF (cm1 s p) ps ≤ needF s ps := by
  obtain ⟨-, -, -, -, h5, h6⟩ := cm1_step hu hk ok hr
  unfold needF
  refine List.countP_mono_left fun q hq h => ?_
  have hqp : q ≠ p := fun e => hp (e ▸ hq)
  unfold needP at *
  rw [h5 q hqp] at h
  cases hl : look s.2 q with
  | none => rfl
  | some f =>
    rw [hl] at h
    simp only [decide_eq_true_eq] at h ⊢
    have := h6 q f hqp hl
    omega
/-- Pages that are committed, one after the other. -/
theorem cm_fold {R : Nat → Nat} {cap : Int} : ∀ (ps : List Int) {s : List Fr × PL}, ps.Nodup → UI R s.1 s.2 → Kn s.2 → Pok cap s.1 → (usedF s.1 : Int) + needF s ps ≤ cap →
    CS R cap s (ps.foldl cm1 s) ∧ (∀ q, look (ps.foldl cm1 s).2 q ≠ none ↔ q ∈ ps ∨ look s.2 q ≠ none) ∧ usedF (ps.foldl cm1 s).1 ≤ usedF s.1 + needF s ps ∧ (∀ q ∈ ps, ∃ f, look (ps.foldl cm1 s).2 q = some f ∧ (fr (ps.foldl cm1 s).1 f).users = 1) ∧
      (∀ q, q ∉ ps → look (ps.foldl cm1 s).2 q = look s.2 q) ∧ (∀ q f, q ∉ ps → look s.2 q = some f → (fr (ps.foldl cm1 s).1 f).users ≤ (fr s.1 f).users) ∧ ((∀ q ∈ ps, look s.2 q = none) → usedF (ps.foldl cm1 s).1 = usedF s.1 + ps.length)
  | [], s, _, hu, hk, ok, _ => ⟨CS.refl hu hk ok, by simp, by simp [needF], by simp, by simp, fun _ _ _ _ => Int.le_refl _, by simp⟩
  | p :: ps, s, hn, hu, hk, ok, hr => by
    rw [List.nodup_cons] at hn
    have hnd : needF s (p :: ps) = needF s ps + if needP s.1 s.2 p then 1 else 0 := by
      unfold needF; rw [List.countP_cons]
    rw [hnd] at hr
    have hr1 : needP s.1 s.2 p = true → (usedF s.1 : Int) < cap := fun h => by rw [h] at hr; simp only [if_true] at hr; omega
    obtain ⟨c1, c2, c3, c4, c5, c6⟩ := cm1_step hu hk ok hr1
    have hle := need_le hu hk ok hr1 hn.1
    obtain ⟨d1, d2, d3, d4, d5, d6, d7⟩ := cm_fold ps (s := cm1 s p) hn.2 c1.ui c1.kn c1.ok (by omega)
    rw [List.foldl_cons]
    refine ⟨c1.trans d1, fun q => ?_, by rw [hnd]; omega, fun q hq => ?_, fun q hq => ?_, fun q f hq hf => ?_, fun hall => ?_⟩
    · rw [d2, c2, List.mem_cons]
      constructor
      · rintro (h | h | h)
        · exact .inl (.inr h)
        · exact .inl (.inl h)
        · exact .inr h
      · rintro ((h | h) | h)
        · exact .inr (.inl h)
        · exact .inl h
        · exact .inr (.inr h)
    · rcases List.mem_cons.1 hq with rfl | hq
      · obtain ⟨f, h1, h2⟩ := c4
        have h3 := d5 q hn.1
        have h4 := d6 q f hn.1 h1
        refine ⟨f, h3.trans h1, ?_⟩
        have := d1.ui.live (h3.trans h1)
        omega
      · exact d4 q hq
    · rw [List.mem_cons, not_or] at hq
      rw [d5 q hq.2, c5 q hq.1]
    · rw [List.mem_cons, not_or] at hq
      have h1 := c6 q f hq.1 hf
      have h2 := d6 q f hq.2 (by rw [c5 q hq.1]; exact hf)
      omega
    · have hp : needP s.1 s.2 p = true := by unfold needP; rw [hall p (by simp)]
      rw [hp] at c3
      have := d7 fun q hq => by rw [c5 q (fun e => hn.1 (e ▸ hq))]; exact hall q (by simp [hq])
      simp only [if_true, List.length_cons] at c3 ⊢
      omega
end Go.Proofs.Ytlcbfahjejgjlaa
