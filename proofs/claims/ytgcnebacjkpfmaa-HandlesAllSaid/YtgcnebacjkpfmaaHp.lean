/- Handles: the law of taking all or none. -/
import Derived.Test.YtgcnebacjkpfmaaHo
set_option maxRecDepth 100000
namespace Go.Proofs.Ytgcnebacjkpfmaa
open Go Go.Jac
theorem whole_snoc {n : Nat} {l : List Int} {k : Int} : whole n (l ++ [k]) ↔ whole n l ∧ (0 ≤ k ∧ k < n) ∧ k ∉ l := by
  constructor
  · intro h
    refine ⟨fun i hi => ?_, ?_⟩
    · have := h i (by simp; omega)
      rw [List.getElem_append_left hi, List.take_append_of_le_length (by omega)] at this
      exact this
    · have := h l.length (by simp)
      simpa using this
  · rintro ⟨h1, h2⟩ i hi
    by_cases e : i < l.length
    · rw [List.getElem_append_left e, List.take_append_of_le_length (by omega)]
      exact h1 i e
    · have : i = l.length := by simp at hi; omega
      subst this
      simpa using h2
/-- What holds while the list is read. -/
def AInv (w0 : World) (L : List HP) (bA bB n : Nat) (l : List Int) (cv : Value) (vs : List Value) (w : World) : Prop :=
  ∃ (u : Value) (wh : Bool) (sv : Value) (i : Nat), vs = [u, .bool wh, sv, .int .i64 i] ∧ i ≤ l.length ∧ (wh = true ↔ whole n (l.take i)) ∧ (∀ k ∈ l.take i, fair n k) ∧
    D w0 (Rw 3 1 cv n (ints (cns n (l.take i))) :: Rw 3 1 sv i (ints ((l.take i).map (fv n))) :: Tb bA 64 (rowSq n) :: Tb bB 64 (rowSq n) :: L) w
def amu (l : List Int) (vs : List Value) (_w : World) : Nat := match vs with
  | [_, _, _, .int _ i] => l.length - i.toNat
  | _ => 0
section
variable {w0 w : World} {L : List HP} {K : Value → WP} {bA bB n i : Nat} {l : List Int} {cv sv u : Value}
/-- A round's end: the value is appended. -/
theorem all_next (hl : l.length ≤ 60) (hi : i < l.length) {X : Bool} {u' : Value} {vs : List Value} {wv : World} (hX : X = true ↔ whole n (l.take (i + 1))) (hfair : ∀ k ∈ l.take (i + 1), fair n k)
    (hmu : amu l vs wv = l.length - i)
    (d : D w0 (Rw 3 1 cv n (ints (cns n (l.take (i + 1)))) :: Rw 3 1 sv i (ints ((l.take i).map (fv n))) :: Tb bA 64 (rowSq n) :: Tb bB 64 (rowSq n) :: L) w) :
    BSlC 3 1 #[.int .i64 0] 1 #[(0, .int .i64 (fv n l[i]))] (fun v125 => AppC 3 1 8 #[.int .i64 0] sv v125 fun v126 => BinI .add (.int .i64 i) (.int .i64 1) fun v127 w' =>
      AInv w0 L bA bB n l cv [u', .bool X, v126, v127] w' ∧ amu l [u', .bool X, v126, v127] w' < amu l vs wv) w := by
  have e1 : l.take (i + 1) = l.take i ++ [l[i]] := List.take_succ_eq_append_getElem hi
  generalize hz : fv n l[i] = z at *
  refine d_bsl [.int .i64 z] d (by decide) (by kernel_rfl) fun bx w1 d1 => ?_
  refine d_app (m := 1) (d1.sel [2]) (src_of d1.get rfl (ones rfl) 1) rfl (by omega) (by omega) (by omega) (ones rfl) fun sv' w2 d2 => ?_
  have d2 : D w0 (Rw 3 1 sv' (i + 1) (ints ((l.take i).map (fv n)) ++ [.int .i64 z]) :: cel bx 3 [.int .i64 z] :: Rw 3 1 cv n (ints (cns n (l.take (i + 1)))) :: Tb bA 64 (rowSq n) :: Tb bB 64 (rowSq n) :: L) w2 := d2
  rw [BinI_add, w64 (by omega) (by omega)]
  have e2 : ints ((l.take (i + 1)).map (fv n)) = ints ((l.take i).map (fv n)) ++ [.int .i64 z] := by
    rw [e1]; simp only [ints, List.map_append, List.map_cons, List.map_nil, hz]
  refine ⟨⟨u', X, sv', i + 1, by simp, by omega, hX, hfair, ?_⟩, ?_⟩
  · rw [e2]
    exact (d2.sel [1, 2, 0]).tail
  · rw [hmu]
    show l.length - ((i : Int) + 1).toNat < l.length - i
    omega
theorem ints_flat (c : List Int) : ints c = c.flatMap fun x => [.int .i64 x] := flat_map1 _ _
/-- One is added to a count. -/
theorem upd_cnt {A : WP} {k : Int} {c : List Int} (hc : c.length = n) (h0 : 0 ≤ k) (h1 : k < n) (d : D w0 (Rw 3 1 cv n (ints c) :: L) w)
    (kk : ∀ w', D w0 (Rw 3 1 cv n (ints (c.set k.toNat (IntKind.i64.wrap (c[k.toNat]'(by omega) + 1)))) :: L) w' → A w') :
    IA 1 cv (.int .i64 k) (fun p => Ld1 p fun x => BinI .add x (.int .i64 1) fun y => IA 1 cv (.int .i64 k) fun p2 => St 1 p2 y fun _ => A) w := by
  subst hc
  rw [ints_flat] at d
  obtain ⟨b, cap, cs, rfl, g, hcs⟩ := rec_at (f := fun x : Int => [Value.int .i64 x]) (es := 1) (S := c) (fun _ => rfl) d h0 h1
  refine ia0 h0 h1 (ld1 (v := .int .i64 (c[k.toNat]'(by omega))) g (hcs 0 _ rfl) ?_)
  rw [BinI_add]
  refine ia0 h0 h1 ?_
  refine rec_st (f := fun x : Int => [Value.int .i64 x]) (es := 1) (S := c) (i := k) (fun _ => rfl) d h0 h1 (o := 0) rfl rfl (by omega) (ones rfl) (IntKind.i64.wrap (c[k.toNat]'(by omega) + 1)) rfl fun w' d' => kk w' ?_
  rw [ints_flat]
  simpa using d'
/-- A count is read. -/
theorem read_cnt {k : Int} {c : List Int} (hc : c.length = n) (h0 : 0 ≤ k) (h1 : k < n) (d : D w0 (Rw 3 1 cv n (ints c) :: L) w) {Kc : Value → WP} (kk : Kc (.int .i64 (c[k.toNat]'(by omega))) w) :
    IA 1 cv (.int .i64 k) (fun p => Ld1 p Kc) w := by
  subst hc
  obtain ⟨b, o, hia, hld⟩ := (sees_of d).elem h0 h1
  exact hia _ _ (hld _ kk)
end
end Go.Proofs.Ytgcnebacjkpfmaa
