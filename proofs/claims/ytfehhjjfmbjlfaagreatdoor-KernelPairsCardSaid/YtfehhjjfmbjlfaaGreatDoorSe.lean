/- The frame of a law: what was there stays; the answer is true. -/
import Derived.Test.YtfehhjjfmbjlfaaGreatDoorSb
import Derived.OpenShut
namespace Go.Jac
open Go

theorem Sat.tail {A : HP} {L : List HP} : ∀ {h : Hp}, Sat (A :: L) h → Sat L h := by
  induction L generalizing A with
  | nil => intro h _; trivial
  | cons B M ih =>
    intro h s
    obtain ⟨h1, h2, s1, a, h3, h4, s2, b, m⟩ := s
    obtain ⟨h', t1, t2⟩ := s1.assoc s2
    exact ⟨h3, h', t1, b, ih (A := A) ⟨h1, h4, t2, a, m⟩⟩
theorem Sat.tail2 {A B : HP} {L : List HP} {h : Hp} (s : Sat (A :: B :: L) h) : Sat (A :: L) h := s.swap.tail
theorem Sat.opens {M : List HP} : ∀ {L : List HP} {h : Hp}, Sat (sat M :: L) h → Sat (M ++ L) h := by
  induction M with
  | nil => intro L h s; exact s.tail
  | cons A M ih =>
    intro L h s
    obtain ⟨h1, h2, s1, ⟨h3, h4, s2, a, m⟩, l⟩ := s
    obtain ⟨h', t1, t2⟩ := s1.into s2
    exact ⟨h3, h', t1, a, ih ⟨h4, h2, t2, m, l⟩⟩

/-- What holds of the world of a walk that began at w0. -/
def D (w0 : World) (L : List HP) (w : World) : Prop := Sat L (hw w) ∧ Kp w0 w
section
variable {w0 w : World} {L M : List HP} {A B : HP} {K : Value → WP} {b o n m : Nat} {t : TypeId} {cs : List Value} {v : Value}
theorem D.pick (i : Nat) (d : D w0 L w) : D w0 (pk i L) w := ⟨d.1.pick i, d.2⟩
theorem D.back (i : Nat) (d : D w0 L w) : D w0 (pb i L) w := ⟨d.1.back i, d.2⟩
theorem D.swap (d : D w0 (A :: B :: L) w) : D w0 (B :: A :: L) w := ⟨d.1.swap, d.2⟩
theorem D.swap2 {C : HP} (d : D w0 (A :: B :: C :: L) w) : D w0 (A :: C :: B :: L) w := ⟨d.1.under fun _ s => s.swap, d.2⟩
theorem D.tail (d : D w0 (A :: L) w) : D w0 L w := ⟨d.1.tail, d.2⟩
theorem D.tail2 (d : D w0 (A :: B :: L) w) : D w0 (A :: L) w := d.swap.tail
theorem D.hd (d : D w0 (A :: L) w) (f : ∀ h, A h → B h) : D w0 (B :: L) w := ⟨d.1.hd f, d.2⟩
theorem D.get (d : D w0 (cel b t cs :: L) w) : hw w b = some (.cells cs.toArray t (0, 0)) := d.1.get
theorem D.ex {α : Type} {A : α → HP} (d : D w0 (ex A :: L) w) : ∃ x, D w0 (A x :: L) w := by
  obtain ⟨x, s⟩ := Sat.ex_iff.1 d.1
  exact ⟨x, s, d.2⟩
theorem D.mk_ex {α : Type} {A : α → HP} (x : α) (d : D w0 (A x :: L) w) : D w0 (Jac.ex A :: L) w := ⟨Sat.ex_iff.2 ⟨x, d.1⟩, d.2⟩
theorem D.opens (d : D w0 (sat M :: L) w) : D w0 (M ++ L) w := ⟨d.1.opens, d.2⟩
theorem D.close (d : D w0 (M ++ L) w) : D w0 (sat M :: L) w := ⟨d.1.close, d.2⟩
theorem D.drawn (d : D w0 L w) : D w0 L { w with drawn := w.drawn + 1 } := ⟨d.1, d.2.os, d.2.tape, d.2.output, d.2.size, Nat.le_trans d.2.drawn (Nat.le_succ _)⟩

theorem ones {l : List Value} (h : l.all Value.oneCell' = true) : ∀ x ∈ l, x.oneCell' = true := List.all_eq_true.1 h
theorem d_st (d : D w0 (cel b t cs :: L) w) (hn : v.cells.size = n) (hl : o + n ≤ cs.length) (h1 : ∀ x ∈ v.cells.toList, x.oneCell' = true)
    (k : ∀ w', D w0 (cel b t (splice cs o v.cells.toList) :: L) w' → K undef w') : St n (.pointer (some ⟨b, o, none⟩)) v K w :=
  st_ok d.1 hn hl h1 fun w' s kp => k w' ⟨s, d.2.trans kp⟩
theorem d_new (cs : List Value) (d : D w0 L w) (k : ∀ b w', D w0 (cel b t cs :: L) w' → K (.pointer (some ⟨b, 0, none⟩)) w') : New t cs.toArray K w :=
  new_ok d.1 fun b w' s kp => k b w' ⟨s, d.2.trans kp⟩
theorem d_new' {vs : Array Value} (cs : List Value) (hv : vs = cs.toArray) (d : D w0 L w) (k : ∀ b w', D w0 (cel b t cs :: L) w' → K (.pointer (some ⟨b, 0, none⟩)) w') : New t vs K w := hv ▸ d_new cs d k
theorem d_bsl {elem size len : Nat} {zero : Array Value} {parts : Array (Nat × Value)} (cs : List Value) (d : D w0 L w) (hs : len * size ≤ 2 ^ 24)
    (hf : Instr.fill (fun i => some (i * size, size)) ((Array.range (len * size)).map (zero[· % zero.size]!)) parts.toList = some cs.toArray)
    (k : ∀ b w', D w0 (cel b elem cs :: L) w' → K (.slice (some ⟨b, 0, none⟩) len len) w') : BSlC elem size zero len parts K w :=
  bsl_ok d.1 hs hf fun b w' s kp => k b w' ⟨s, d.2.trans kp⟩
theorem d_app {elem es bytes : Nat} {zero : Array Value} {sv x : Value} {news : List Value} (d : D w0 (Rw elem es sv n cs :: L) w) (hx : SrcV es x m news w) (hz : zero.size = es) (hm : 0 < m) (hb : (n + m) * bytes ≤ 140737488355328) (h63 : n + m < 4611686018427387904)
    (hx2 : ∀ v ∈ news, v.oneCell' = true)
    (k : ∀ sv' w', D w0 (Rw elem es sv' (n + m) (cs ++ news) :: L) w' → K sv' w') : AppC elem es bytes zero sv x K w :=
  app_ok d.1 hx hz hm hb h63 hx2 fun sv' w' s kp => k sv' w' ⟨s, d.2.trans kp⟩
/-- The appended slice of one element, fresh in a block. -/
theorem src_of (g : hw w b = some (.cells cs.toArray t (0, 0))) (hl : cs.length = m * n) (h1 : ∀ u ∈ cs, u.oneCell' = true) (c : Nat) : SrcV n (.slice (some ⟨b, 0, none⟩) m c) m cs w :=
  .slice ⟨b, 0, none⟩ c rfl hl (fun j u hu => by rw [add_of, cell_of g, Nat.zero_add]; exact hu) h1
end

/-! ### Rows of records -/
section
variable {α : Type} {f : α → List Value} {es : Nat} {S : List α}
theorem flat_len (hf : ∀ x, (f x).length = es) : (S.flatMap f).length = S.length * es := by
  induction S with
  | nil => simp
  | cons x r ih => rw [List.flatMap_cons, List.length_append, ih, hf, List.length_cons, Nat.add_mul]; omega
theorem flat_at (hf : ∀ x, (f x).length = es) : ∀ {S : List α} {i : Nat} (h : i < S.length), ∃ pre post, S.flatMap f = pre ++ f S[i] ++ post ∧ pre.length = i * es ∧ ∀ y, (S.set i y).flatMap f = pre ++ f y ++ post
  | x :: r, 0, _ => ⟨[], r.flatMap f, by simp, by simp, fun y => by simp⟩
  | x :: r, i + 1, h => by
    obtain ⟨pre, post, h1, h2, h3⟩ := flat_at hf (S := r) (i := i) (by simpa using h)
    refine ⟨f x ++ pre, post, ?_, ?_, fun y => ?_⟩
    · rw [List.flatMap_cons, h1]; simp
    · rw [List.length_append, hf, h2, Nat.add_mul]; omega
    · rw [List.set_cons_succ, List.flatMap_cons, h3]; simp
theorem splice_mid {pre mid post vs : List Value} {o p : Nat} (hp : p = pre.length + o) (h : o + vs.length ≤ mid.length) : splice (pre ++ mid ++ post) p vs = pre ++ splice mid o vs ++ post := by
  subst hp
  rw [splice_eq _ _ _ (by simp; omega), splice_eq _ _ _ h]
  have h1 : (pre ++ mid ++ post).take (pre.length + o) = pre ++ mid.take o := by
    rw [List.append_assoc, List.take_append, List.take_append_of_le_length (by omega)]
    simp [List.take_of_length_le]
  have h2 : (pre ++ mid ++ post).drop (pre.length + o + vs.length) = mid.drop (o + vs.length) ++ post := by
    rw [List.append_assoc, List.drop_append, List.drop_append_of_le_length (by omega)]
    rw [List.drop_eq_nil_of_le (by omega)]
    simp only [List.nil_append]
    congr 2; omega
  rw [h1, h2]; simp

variable {w0 w : World} {L : List HP} {K : Value → WP} {elem : Nat} {sv : Value} {i : Int}
/-- Where an element of a row lies. -/
theorem rec_at (hf : ∀ x, (f x).length = es) (d : D w0 (Rw elem es sv S.length (S.flatMap f) :: L) w) (h0 : 0 ≤ i) (h1 : i < S.length) :
    ∃ (b cap : Nat) (cs : List Value), sv = .slice (some ⟨b, 0, none⟩) S.length cap ∧ hw w b = some (.cells cs.toArray elem (0, 0)) ∧ ∀ j x, (f (S[i.toNat]'(by omega)))[j]? = some x → cs[i.toNat * es + j]? = some x := by
  obtain ⟨b, cap, junk, rfl, hle, hl, s⟩ := Rw.block d.1 (by omega)
  refine ⟨b, cap, _, rfl, s.get, fun j x hx => ?_⟩
  obtain ⟨pre, post, e1, e2, _⟩ := flat_at hf (S := S) (i := i.toNat) (by omega)
  have hj := (List.getElem?_eq_some_iff.1 hx).1
  rw [e1, ← e2, List.append_assoc, List.append_assoc, List.getElem?_append_right (by omega), Nat.add_sub_cancel_left, List.getElem?_append_left hj]
  exact hx
/-- An element of a row, or a part of it, written anew. -/
theorem rec_st (hf : ∀ x, (f x).length = es) {b cap n : Nat} (d : D w0 (Rw elem es (.slice (some ⟨b, 0, none⟩) n cap) S.length (S.flatMap f) :: L) w) (h0 : 0 ≤ i) (h1 : i < S.length) {v : Value} {m o p : Nat} (hp : p = i.toNat * es + o) (hm : v.cells.size = m) (ho : o + m ≤ es)
    (hc : ∀ x ∈ v.cells.toList, x.oneCell' = true) (y : α) (hy : splice (f (S[i.toNat]'(by omega))) o v.cells.toList = f y)
    (k : ∀ w', D w0 (Rw elem es (.slice (some ⟨b, 0, none⟩) n cap) (S.set i.toNat y).length ((S.set i.toNat y).flatMap f) :: L) w' → K undef w') :
    St m (.pointer (some ⟨b, p, none⟩)) v K w := by
  obtain ⟨b', cap', junk, e, hle, hl, s⟩ := Rw.block d.1 (by omega)
  cases e
  obtain ⟨pre, post, e1, e2, e3⟩ := flat_at hf (S := S) (i := i.toNat) (by omega)
  have hs : v.cells.toList.length = m := by rw [Array.length_toList]; exact hm
  have hi : i.toNat < S.length := by omega
  have hroom : i.toNat * es + es ≤ S.length * es := by rw [← Nat.succ_mul]; exact Nat.mul_le_mul_right _ hi
  have hfl := flat_len (S := S) hf
  refine d_st (w0 := w0) (L := L) (cs := S.flatMap f ++ junk) ⟨s, d.2⟩ hm (by subst hp; rw [List.length_append, hfl]; omega) hc fun w' d' => k w' ?_
  have key : splice (S.flatMap f ++ junk) p v.cells.toList = (S.set i.toNat y).flatMap f ++ junk := by
    rw [e1, List.append_assoc, splice_mid (o := o) (by omega) (by rw [hf, hs]; exact ho), hy, e3]
    simp
  rw [key] at d'
  have hlen : (S.set i.toNat y).length = S.length := by simp
  refine ⟨?_, d'.2⟩
  rw [hlen]
  exact Rw.mk d'.1 hle (by rw [flat_len hf, hlen]) (by rw [← key, splice_length]; exact hl)
end
end Go.Jac
namespace Go.Jac
open Go
section
variable {P : Program} {w0 w : World} {L : List HP} {I : WP} {B : Value → WP} {b o n : Nat} {t : TypeId} {cs : List Value} {v : Value}
/-- A segment: what holds of memory while some of those that read are still ahead. -/
theorem qt {F : WP → WP} (d : D w0 L w) (h : F (D w0 L) w) : QtC F w := ⟨_, d, h⟩
theorem ch {K : WP} (h : I w) (k : K w) : CH I K w := ⟨h, k⟩
theorem drw {A : WP} (d : D w0 L w) (h : ∀ w', D w0 L w' → A w') : Drw A w := h _ d.drawn
theorem qe {A : (Value → WP) → WP} (v : Value) (h : ∀ w', I w' → A (fun v' w'' => v' = v ∧ w'' = w') w') (k : B v w) : QE I A B w := ⟨v, h, k⟩
theorem qe_nil {p : Addr} (k : B (.pointer (some p)) w) : QE I (fun KK => NilC (.pointer (some p)) fun v => KK v) B w := qe _ (fun _ _ => ⟨rfl, rfl⟩) k
theorem qe_fa (k : B (.pointer (some ⟨b, o + n, none⟩)) w) : QE I (fun KK => FA (.pointer (some ⟨b, o, none⟩)) n fun v => KK v) B w := qe _ (fun _ _ => by rw [FA_p]; exact ⟨rfl, rfl⟩) k
theorem qe_ld1 (g : ∀ w', I w' → hw w' b = some (.cells cs.toArray t (0, 0))) (hv : cs[o]? = some v) (k : B v w) : QE I (fun KK => Ld1 (.pointer (some ⟨b, o, none⟩)) fun v => KK v) B w := qe _ (fun w' h => ld1 (g w' h) hv ⟨rfl, rfl⟩) k
theorem qe_ldN (g : ∀ w', I w' → hw w' b = some (.cells cs.toArray t (0, 0))) (vs : List Value) (hl : vs.length = n) (hv : ∀ j x, vs[j]? = some x → cs[o + j]? = some x) (k : B (.agg vs.toArray) w) : QE I (fun KK => LdN n (.pointer (some ⟨b, o, none⟩)) fun v => KK v) B w := qe _ (fun w' h => ldN (g w' h) vs hl hv ⟨rfl, rfl⟩) k
theorem qe_bld {zero : Array Value} {places : List (Nat × Nat)} {parts : Array (Nat × Value)} (c : Array Value) (h : Instr.fill (fun i => places[i]?) zero parts.toList = some c) (k : B (.agg c) w) : QE I (fun KK => Ex P (bldS zero places parts) fun v => KK v) B w := qe _ (fun _ _ => bld_ok h ⟨rfl, rfl⟩) k
theorem qe_ext {vs : Array Value} {i : Nat} (h : vs[i]? = some v) (k : B v w) : QE I (fun KK => Ext (.tuple vs) i fun v => KK v) B w := qe v (fun _ _ => by rw [Ext_t, h]; exact ⟨rfl, rfl⟩) k
theorem qe_ia {es len cap : Nat} {k : IntKind} {i : Int} (h0 : 0 ≤ i) (h1 : i < (len : Int)) (kk : B (.pointer (some ⟨b, o + i.toNat * es, none⟩)) w) : QE I (fun KK => IA es (.slice (some ⟨b, o, none⟩) len cap) (.int k i) fun v => KK v) B w := qe _ (fun _ _ => ia_ok h0 h1 ⟨rfl, rfl⟩) kk
theorem qe_len {p : Option Addr} {n c : Nat} (k : B (.int .i64 n) w) : QE I (fun KK => LenS (.slice p n c) fun v => KK v) B w := qe _ (fun _ _ => ⟨rfl, rfl⟩) k
/-- Whatever needs no memory. -/
theorem qe_op {A : (Value → WP) → WP} (h : ∀ KK w, A KK w = KK v w) (k : B v w) : QE I A B w := qe v (fun _ _ => by rw [h]; exact ⟨rfl, rfl⟩) k
end
theorem St_w {n : Nat} {v : Value} {K K' : Value → WP} {p : Value} {w : World} (h : St n p v K w) (k : ∀ w', K undef w' → K' undef w') : St n p v K' w := by
  obtain ⟨p, a, b, c, d⟩ := h
  exact ⟨p, a, b, c, k _ d⟩
end Go.Jac
namespace Go.Jac
open Go Go.RowKit Go.ChangeShapes

/-- All that was there. -/
def Old (w : World) : HP := fun h => ∀ b, b < w.heap.size → h b = hw w b
theorem D.start (w : World) : D w [Old w] w := ⟨⟨hw w, hE, (Split.right _).comm, fun _ _ => rfl, trivial⟩, Kp.refl w⟩
theorem D.below {w0 w : World} {L : List HP} (d : D w0 (Old w0 :: L) w) : Below w0.heap.size w0 w := by
  obtain ⟨⟨h1, h2, s, a, _⟩, k⟩ := d
  refine ⟨k.os, k.tape, k.output, k.size, fun i hi => ?_⟩
  have e : hw w0 i = some w0.heap[i] := Array.getElem?_eq_getElem hi
  have g : h1 i = some w0.heap[i] := (a i hi).trans e
  exact (s.l g).trans e.symm
/-- A cell that was there reads as it did. -/
theorem D.old {w0 w : World} {L : List HP} (d : D w0 (Old w0 :: L) w) {p : Addr} (hp : p.block < w0.heap.size) : w.cell? p = w0.cell? p := (D.below d).cell hp

section
variable {H : Type} {enc : TypeId × Value → H} {P : Program}
theorem trodAll_below (hl : laidOutB P = true) {W W' : World} (hb : Below W.heap.size W W') : ∀ {ts : List TypeId} {vs : List Value} {ds : List (DataW H)} {ps : List MemPlace},
    (∀ t ∈ ts, P.readableRec t = true ∧ t < P.types.size) → DataW.TrodAll enc P W 0 (fun _ => true) true ts vs ds ps → (∀ x ∈ ps, x.block < W.heap.size) →
    DataW.TrodAll enc P W' 0 (fun b => decide (b < W.heap.size)) true ts vs ds ps
  | [], [], [], ps, _, h, _ => h
  | t :: ts, v :: vs, d :: ds, ps, ht, h, hlt => by
    obtain ⟨p, q, h1, h2, rfl⟩ := h
    exact trodAll_cons_mk (hb.trod hl (ht t (by simp)).1 (ht t (by simp)).2 h1 fun x hx => hlt x (by simp [hx]))
      (trodAll_below hl hb (fun t' ht' => ht t' (by simp [ht'])) h2 fun x hx => hlt x (by simp [hx]))
theorem law_post {f : Func} {s : ChangeSpec} {apart fresh handsOn : Bool} {W W' : World} {args : Array Value} {ds gs : List (DataW H)} {before : List MemPlace} {tb : TypeId}
    (hl : laidOutB P = true) (ht : ∀ t ∈ f.params.toList, P.readableRec t = true ∧ t < P.types.size) (hv : s.vars = []) (hr : f.resultTypes = #[tb]) (hb : P.underlying tb = some .bool)
    (hW : DataW.Whole enc P f.params.toList s.vars apart W args.toList ds gs before)
    (hf : s.fn H (ds ++ gs) = { results := [.lit (.bool true)], args := ds, vars := [] }) (B : Below W.heap.size W W') : s.post enc P f apart fresh handsOn false W args (.bool true) W' := by
  have hlt := hW.lt
  have hW' := hW
  obtain ⟨p, q, hA, hV, rfl, _, _⟩ := hW
  rw [hv] at hV
  obtain ⟨rfl, rfl⟩ := trodVars_none hV
  refine ⟨ds, [], _, [], p, [], hW', ?_, ?_, ?_, World.keptBut_mono (fun _ h => h.elim) (B.frame (fun _ => False)), fun h => by cases h⟩
  · rw [hf, hr]
    exact trodAll_cons_mk (shut_bool hb true) trodAll_mk0
  · rw [hf]
    exact trodAll_below hl B ht hA fun x hx => hlt x (by simpa using hx)
  · rw [hf, hv]
    exact (rfl : ([] : List MemPlace) = [])
end
/-- A law's walk, as its row asks for it. -/
theorem law_walk {P : Program} {n : FuncId} {args : Array Value} {W : World} (h : ∀ (K : Value → WP), (∀ w', D W [Old W] w' → K (.bool true) w') → Cl P n args K W) :
    Calls P n args W fun e w' => e = .returned (.bool true) ∧ Below W.heap.size W w' := by
  refine Calls.mono (h (fun v w' => v = .bool true ∧ Below W.heap.size W w') fun w' d => ⟨rfl, d.below⟩) ?_
  rintro e w' ⟨v, rfl, rfl, hb⟩
  exact ⟨rfl, hb⟩
end Go.Jac
