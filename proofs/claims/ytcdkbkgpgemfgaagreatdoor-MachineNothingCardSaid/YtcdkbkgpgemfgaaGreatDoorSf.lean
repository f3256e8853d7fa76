/- What a law's arguments are: read off what they read as. -/
import Derived.Test.YtcdkbkgpgemfgaaGreatDoorSc
import Derived.OpenShut
namespace Go.Jac
open Go
section
variable {P : Program} {w0 w : World} {L : List HP} {I : WP} {B : Value → WP} {b o n : Nat} {t : TypeId} {cs : List Value} {v : Value}
/-- A segment: what holds of memory while some of those that read are still ahead. -/
theorem qt {F : WP → WP} (d : D w0 L w) (h : F (D w0 L) w) : QtC F w := ⟨_, d, h⟩
theorem ch {K : WP} (h : I w) (k : K w) : CH I K w := ⟨h, k⟩
theorem drw {A : WP} (d : D w0 L w) (h : ∀ w', D w0 L w' → A w') : Drw A w := h _ d.drawn
theorem qe {A : (Value → WP) → WP} (v : Value) (h : ∀ w', I w' → A (fun v' w'' => v' = v ∧ w'' = w') w') (k : B v w) : QE I A B w := ⟨v, h, k⟩
theorem qe_nil {p : Addr} (k : B (.pointer (some p)) w) : QE I (fun KK => NilC (.pointer (some p)) fun v => KK v) B w := qe _ (fun _ _ => ⟨rfl, rfl⟩) k
theorem qe_fa (k : B (.pointer (some ⟨b, o + n, none⟩)) w) : QE I (fun KK => FA (.pointer (some ⟨b, o, none⟩)) n fun v => KK v) B w := qe _ (fun _ _ => by rw [FA_p]; exact ⟨rfl, rfl⟩) k
theorem qe_ld1 (g : ∀ w', I w' → hw w' b = some (.cells cs.toArray t (0, 0))) (hv : cs[o]? = some v) (k : B v w) : QE I (fun KK => Ld1 (.pointer (some ⟨b, o, none⟩)) fun v => KK v) B w := qe _ (fun w' h => ld1 (g w' h) hv ⟨rfl, rfl⟩) k
theorem qe_ldN (g : ∀ w', I w' → hw w' b = some (.cells cs.toArray t (0, 0))) (vs : List Value) (hl : vs.length = n) (hv : ∀ j x, vs[j]? = some x → cs[o + j]? = some x) (k : B (.agg vs.toArray) w) : QE I (fun KK => LdN n (.pointer (some ⟨b, o, none⟩)) fun v => KK v) B w := qe _ (fun w' h => ldN (g w' h) vs hl hv ⟨rfl, rfl⟩) k
theorem qe_bld {zero : Array Value} {places : List (Nat × Nat)} {parts : Array (Nat × Value)} (c : Array Value) (h : Instr.fill (fun i => places[i]?) zero parts.toList = some c) (k : B (.agg c) w) : QE I (fun KK => Ex P (bldS zero places parts) fun v => KK v) B w := qe _ (fun _ _ => bld_ok h ⟨rfl, rfl⟩) k
theorem qe_ext {vs : Array Value} {i : Nat} (h : vs[i]? = some v) (k : B v w) : QE I (fun KK => Ext (.tuple vs) i fun v => KK v) B w := qe v (fun _ _ => by rw [Ext_t, h]; exact ⟨rfl, rfl⟩) k
theorem qe_ia {es len cap : Nat} {k : IntKind} {i : Int} (h0 : 0 ≤ i) (h1 : i < (len : Int)) (kk : B (.pointer (some ⟨b, o + i.toNat * es, none⟩)) w) : QE I (fun KK => IA es (.slice (some ⟨b, o, none⟩) len cap) (.int k i) fun v => KK v) B w := qe _ (fun _ _ => ia_ok h0 h1 ⟨rfl, rfl⟩) kk
theorem qe_len {p : Option Addr} {n c : Nat} (k : B (.int .i64 n) w) : QE I (fun KK => LenS (.slice p n c) fun v => KK v) B w := qe _ (fun _ _ => ⟨rfl, rfl⟩) k
/-- Whatever needs no memory. -/
theorem qe_op {A : (Value → WP) → WP} (h : ∀ KK w, A KK w = KK v w) (k : B v w) : QE I A B w := qe v (fun _ _ => by rw [h]; exact ⟨rfl, rfl⟩) k
end
theorem St_w {n : Nat} {v : Value} {K K' : Value → WP} {p : Value} {w : World} (h : St n p v K w) (k : ∀ w', K undef w' → K' undef w') : St n p v K' w := by
  obtain ⟨p, a, b, c, d⟩ := h
  exact ⟨p, a, b, c, k _ d⟩
end Go.Jac
namespace Go.Jac
open Go Go.RowKit Go.ChangeShapes

/-- All that was there. -/
def Old (w : World) : HP := fun h => ∀ b, b < w.heap.size → h b = hw w b
theorem D.start (w : World) : D w [Old w] w := ⟨⟨hw w, hE, (Split.right _).comm, fun _ _ => rfl, trivial⟩, Kp.refl w⟩
theorem D.below {w0 w : World} {L : List HP} (d : D w0 (Old w0 :: L) w) : Below w0.heap.size w0 w := by
  obtain ⟨⟨h1, h2, s, a, _⟩, k⟩ := d
  refine ⟨k.os, k.tape, k.output, k.size, fun i hi => ?_⟩
  have e : hw w0 i = some w0.heap[i] := Array.getElem?_eq_getElem hi
  have g : h1 i = some w0.heap[i] := (a i hi).trans e
  exact (s.l g).trans e.symm
/-- A cell that was there reads as it did. -/
theorem D.old {w0 w : World} {L : List HP} (d : D w0 (Old w0 :: L) w) {p : Addr} (hp : p.block < w0.heap.size) : w.cell? p = w0.cell? p := (D.below d).cell hp

section
variable {H : Type} {enc : TypeId × Value → H} {P : Program}
theorem trodAll_below (hl : laidOutB P = true) {W W' : World} (hb : Below W.heap.size W W') : ∀ {ts : List TypeId} {vs : List Value} {ds : List (DataW H)} {ps : List MemPlace},
    (∀ t ∈ ts, P.readableRec t = true ∧ t < P.types.size) → DataW.TrodAll enc P W 0 (fun _ => true) true ts vs ds ps → (∀ x ∈ ps, x.block < W.heap.size) →
    DataW.TrodAll enc P W' 0 (fun b => decide (b < W.heap.size)) true ts vs ds ps
  | [], [], [], ps, _, h, _ => h
  | t :: ts, v :: vs, d :: ds, ps, ht, h, hlt => by
    obtain ⟨p, q, h1, h2, rfl⟩ := h
    exact trodAll_cons_mk (hb.trod hl (ht t (by simp)).1 (ht t (by simp)).2 h1 fun x hx => hlt x (by simp [hx]))
      (trodAll_below hl hb (fun t' ht' => ht t' (by simp [ht'])) h2 fun x hx => hlt x (by simp [hx]))
theorem law_post {f : Func} {s : ChangeSpec} {apart fresh handsOn : Bool} {W W' : World} {args : Array Value} {ds gs : List (DataW H)} {before : List MemPlace} {tb : TypeId}
    (hl : laidOutB P = true) (ht : ∀ t ∈ f.params.toList, P.readableRec t = true ∧ t < P.types.size) (hv : s.vars = []) (hr : f.resultTypes = #[tb]) (hb : P.underlying tb = some .bool)
    (hW : DataW.Whole enc P f.params.toList s.vars apart W args.toList ds gs before)
    (hf : s.fn H (ds ++ gs) = { results := [.lit (.bool true)], args := ds, vars := [] }) (B : Below W.heap.size W W') : s.post enc P f apart fresh handsOn false W args (.bool true) W' := by
  have hlt := hW.lt
  have hW' := hW
  obtain ⟨p, q, hA, hV, rfl, _, _⟩ := hW
  rw [hv] at hV
  obtain ⟨rfl, rfl⟩ := trodVars_none hV
  refine ⟨ds, [], _, [], p, [], hW', ?_, ?_, ?_, World.keptBut_mono (fun _ h => h.elim) (B.frame (fun _ => False)), fun h => by cases h⟩
  · rw [hf, hr]
    exact trodAll_cons_mk (shut_bool hb true) trodAll_mk0
  · rw [hf]
    exact trodAll_below hl B ht hA fun x hx => hlt x (by simpa using hx)
  · rw [hf, hv]
    exact (rfl : ([] : List MemPlace) = [])
end
/-- A law's walk, as its row asks for it. -/
theorem law_walk {P : Program} {n : FuncId} {args : Array Value} {W : World} (h : ∀ (K : Value → WP), (∀ w', D W [Old W] w' → K (.bool true) w') → Cl P n args K W) :
    Calls P n args W fun e w' => e = .returned (.bool true) ∧ Below W.heap.size W w' := by
  refine Calls.mono (h (fun v w' => v = .bool true ∧ Below W.heap.size W w') fun w' d => ⟨rfl, d.below⟩) ?_
  rintro e w' ⟨v, rfl, rfl, hb⟩
  exact ⟨rfl, hb⟩
end Go.Jac
namespace Go.Jac
open Go Go.RowKit

/-- Cells that read as data of a type. -/
def Rd (P : Program) (w : World) (t : TypeId) (cs : List Value) : Prop :=
  ∃ (H : Type) (enc : TypeId × Value → H) (base : Nat) (sp : Nat → Bool) (held : Bool) (fuel : Nat) (x : DataW H × List MemPlace), DataW.trod enc P w base sp held fuel t cs = some x
section
variable {P : Program} {w : World} {t : TypeId} {cs : List Value}
theorem Rd.of {H : Type} {enc : TypeId × Value → H} {base : Nat} {sp : Nat → Bool} {held : Bool} {v : Value} {d : DataW H} {ps : List MemPlace} (h : DataW.Trod enc P w base sp held t v d ps) : Rd P w t v.cells.toList := by
  obtain ⟨fuel, h⟩ := h
  exact ⟨_, _, _, _, _, _, _, h⟩
theorem Rd.int {k : IntKind} (ht : P.underlying t = some (.int k)) (h : Rd P w t cs) : ∃ n, cs = [.int k n] ∧ (Lit.int k n).wf = true := by
  obtain ⟨_, _, _, _, _, _, _, h⟩ := h
  obtain ⟨n, e, _, hw⟩ := DataW.trod_int ht h
  exact ⟨n, e, hw⟩
theorem Rd.bool (ht : P.underlying t = some .bool) (h : Rd P w t cs) : ∃ b, cs = [.bool b] := by
  obtain ⟨_, _, _, _, _, _, _, h⟩ := h
  obtain ⟨n, e, _⟩ := DataW.trod_bool ht h
  exact ⟨n, e⟩
theorem Rd.string (ht : P.underlying t = some .string) (h : Rd P w t cs) : ∃ s : ByteArray, cs = [.string s] ∧ s.size ≤ maxLen := by
  obtain ⟨_, _, _, _, _, _, _, h⟩ := h
  obtain ⟨n, e, _, hw⟩ := DataW.trod_string ht h
  exact ⟨n, e, hw⟩
theorem Rd.struct {fs : Array Field} (ht : P.underlying t = some (.struct fs)) (h : Rd P w t cs) : cs.length = P.cellsOf t ∧ ∀ (i : Nat) (f : Field), fs[i]? = some f → Rd P w f.type ((cs.drop f.offset).take (P.cellsOf f.type)) := by
  obtain ⟨H, enc, base, sp, held, fuel, x, h⟩ := h
  obtain ⟨xs, m, rfl, _, hl, hn, hx⟩ := DataW.trod_struct ht h
  refine ⟨hl, fun i f hf => ?_⟩
  have hi : i < xs.length := by
    rw [hn]; exact (Array.getElem?_eq_some_iff.1 hf).1
  exact ⟨H, enc, base, sp, held, m, xs[i], (hx i f hf).trans (List.getElem?_eq_getElem hi)⟩
theorem cells?_get {base : Nat} {a : Addr} {n : Nat} {vs : List Value} (h : w.cells? base a n = some vs) : vs.length = n ∧ ∀ j x, vs[j]? = some x → w.cell? (a.add j) = some x := by
  unfold World.cells? at h
  split at h
  · have hl := mapM_some_length h
    rw [List.length_range] at hl
    refine ⟨hl, fun j x hx => ?_⟩
    have hj : j < n := by rw [← hl]; exact (List.getElem?_eq_some_iff.1 hx).1
    rw [mapM_some_get h j j (by simp [hj]), hx]
  · cases h
theorem Rd.slice {e : TypeId} (ht : P.underlying t = some (.slice e)) (h : Rd P w t cs) :
    cs = [.slice none 0 0] ∨ ∃ a len cap, cs = [.slice (some a) len cap] ∧ len ≤ cap ∧ cap ≤ maxLen ∧
      ∀ i, i < len → ∃ vs : List Value, vs.length = P.cellsOf e ∧ (∀ j x, vs[j]? = some x → w.cell? ((a.add (i * P.cellsOf e)).add j) = some x) ∧ Rd P w e vs := by
  obtain ⟨H, enc, base, sp, held, fuel, x, h⟩ := h
  rcases DataW.trod_slice ht h with ⟨e, _⟩ | ⟨a, len, cap, elems, rest, m, rfl, e, _, _, hl, hc, hn, hx, _⟩
  · exact .inl e
  · refine .inr ⟨a, len, cap, e, hl, hc, fun i hi => ?_⟩
    have := hx i hi
    rw [List.getElem?_eq_getElem (by rw [hn]; exact hi), Option.bind_eq_some_iff] at this
    obtain ⟨vs, h1, h2⟩ := this
    obtain ⟨h3, h4⟩ := cells?_get h1
    exact ⟨vs, h3, h4, H, enc, base, sp, held, m, _, h2⟩
theorem Rd.array {n : Nat} {e : TypeId} (ht : P.underlying t = some (.array n e)) (h : Rd P w t cs) : cs.length = P.cellsOf t ∧ ∀ i, i < n → Rd P w e ((cs.drop (i * P.cellsOf e)).take (P.cellsOf e)) := by
  obtain ⟨H, enc, base, sp, held, fuel, x, h⟩ := h
  obtain ⟨xs, m, rfl, _, hl, hn, hx⟩ := DataW.trod_array ht h
  refine ⟨hl, fun i hi => ⟨H, enc, base, sp, held, m, xs[i]'(by rw [hn]; exact hi), ?_⟩⟩
  rw [hx i hi]
  exact List.getElem?_eq_getElem _
end

/-! ### Old memory, wherever it stands in the list -/
theorem D.front {w0 w : World} {A : HP} : ∀ {L : List HP}, D w0 L w → A ∈ L → ∃ M, D w0 (A :: M) w
  | B :: L, d, h => by
    rcases List.mem_cons.1 h with rfl | h
    · exact ⟨L, d⟩
    · obtain ⟨i, hi, e⟩ := List.getElem_of_mem h
      obtain ⟨⟨h1, h2, s, b, l⟩, k⟩ := d
      have key : ∀ {L : List HP} {h : Hp} {A : HP}, Sat L h → A ∈ L → ∃ M, Sat (A :: M) h := by
        intro L
        induction L with
        | nil => intro h A _ hm; cases hm
        | cons C L ih =>
          intro h A s hm
          rcases List.mem_cons.1 hm with rfl | hm
          · exact ⟨L, s⟩
          · obtain ⟨h3, h4, s2, c, l2⟩ := s
            obtain ⟨M, l3⟩ := ih l2 hm
            exact ⟨C :: M, Sat.swap ⟨h3, h4, s2, c, l3⟩⟩
      obtain ⟨M, s'⟩ := key (L := B :: L) (h := hw w) ⟨h1, h2, s, b, l⟩ (List.mem_cons_of_mem _ h)
      exact ⟨M, s', k⟩
theorem D.oldc {w0 w : World} {L : List HP} (d : D w0 L w) (hm : Old w0 ∈ L) {p : Addr} {x : Value} (hx : w0.cell? p = some x) : w.cell? p = some x := by
  obtain ⟨M, d⟩ := d.front hm
  rw [← hx]
  refine d.old ?_
  unfold World.cell? at hx
  cases hb : w0.heap[p.block]? with
  | none => simp [hb] at hx
  | some o => exact (Array.getElem?_eq_some_iff.1 hb).1
section
variable {w0 w : World} {L : List HP} {K : Value → WP} {p : Addr}
theorem old_ld1 {v : Value} (d : D w0 L w) (hm : Old w0 ∈ L) (hv : w0.cell? p = some v) (k : K v w) : Ld1 (.pointer (some p)) K w := ⟨_, v, rfl, d.oldc hm hv, k⟩
theorem old_ldN {n : Nat} (vs : List Value) (d : D w0 L w) (hm : Old w0 ∈ L) (hl : vs.length = n) (hv : ∀ j x, vs[j]? = some x → w0.cell? (p.add j) = some x) (k : K (.agg vs.toArray) w) : LdN n (.pointer (some p)) K w :=
  ⟨_, vs, rfl, hl, fun j x hx => d.oldc hm (hv j x hx), k⟩
theorem old_ia {es len c : Nat} {k : IntKind} {i : Int} (h0 : 0 ≤ i) (h1 : i < (len : Int)) (hk : K (.pointer (some (p.add (i.toNat * es)))) w) : IA es (.slice (some p) len c) (.int k i) K w :=
  ⟨_, _, _, _, _, rfl, rfl, h0, h1, hk⟩
end
end Go.Jac
