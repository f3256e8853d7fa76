/- Handles: taking and closing many. -/
import Derived.Test.YtgcnebacjkpfmaaHi
import Derived.Test.YtgcnebacjkpfmaaSh
set_option maxRecDepth 100000
namespace Go.Proofs.Ytgcnebacjkpfmaa
open Go Go.Jac
def ints (l : List Int) : List Value := l.map fun x => .int .i64 x
/-- A slice that can be read as these numbers. -/
def Sees (w : World) (sv : Value) (l : List Int) : Prop :=
  ∃ p c, sv = .slice p l.length c ∧ l.length ≤ c ∧ (l ≠ [] → ∃ b o cs t, p = some ⟨b, o, none⟩ ∧ hw w b = some (.cells (cs : List Value).toArray t (0, 0)) ∧ ∀ j x, l[j]? = some x → cs[o + j]? = some (.int .i64 x))
section
variable {w0 w : World} {L : List HP} {K : Value → WP} {b : Nat} {cap : Int} {S : List Slot} {sv : Value} {l : List Int}
theorem sees_of {elem : Nat} (d : D w0 (Rw elem 1 sv l.length (ints l) :: L) w) : Sees w sv l := by
  obtain ⟨p, c, rfl, hc⟩ := Rw.shape d.1
  refine ⟨p, c, rfl, hc, fun hne => ?_⟩
  have hpos : 0 < l.length := List.length_pos_iff.2 hne
  obtain ⟨b, cap, junk, e, _, _, s⟩ := Rw.block d.1 hpos
  cases e
  refine ⟨b, 0, _, _, rfl, s.get, fun j x hx => ?_⟩
  have hj := (List.getElem?_eq_some_iff.1 hx).1
  rw [Nat.zero_add, List.getElem?_append_left (by simp [ints]; exact hj)]
  simp [ints, hx]
theorem Sees.len (h : Sees w sv l) (k : K (.int .i64 l.length) w) : LenS sv K w := by
  obtain ⟨p, c, rfl, _⟩ := h
  exact k
theorem Sees.elem (h : Sees w sv l) {i : Int} (h0 : 0 ≤ i) (h1 : i < l.length) : ∃ b o, (∀ K : Value → WP, ∀ w, K (.pointer (some ⟨b, o, none⟩)) w → IA 1 sv (.int .i64 i) K w) ∧ (∀ K : Value → WP, K (.int .i64 (l[i.toNat]'(by omega))) w → Ld1 (.pointer (some ⟨b, o, none⟩)) K w) := by
  obtain ⟨p, c, rfl, _, hx⟩ := h
  obtain ⟨b, o, cs, t, rfl, g, hc⟩ := hx (by intro e; subst e; simp at h1; omega)
  refine ⟨b, o + i.toNat * 1, fun K w hk => ia_ok h0 h1 hk, fun K hk => ?_⟩
  rw [Nat.mul_one]
  exact ld1 g (hc i.toNat _ (List.getElem?_eq_getElem (by omega))) hk
theorem Sees.take (h : Sees w sv l) {i : Nat} (hi : i ≤ l.length) (k : ∀ sv', Sees w sv' (l.take i) → K sv' w) : SlC 1 sv none (some (.int .i64 i)) K w := by
  obtain ⟨p, c, rfl, hc, hx⟩ := h
  refine ⟨p, l.length, c, 0, i, rfl, ⟨.i64, i, rfl, by omega, by omega, by omega⟩, rfl, ?_⟩
  have hl : (l.take i).length = i := by rw [List.length_take]; omega
  refine k _ ⟨p, c, ?_, by omega, fun hne => ?_⟩
  · rw [hl]
    have : p.map (fun x => x.add (0 * 1)) = p := by
      cases p with
      | none => rfl
      | some a => cases a; simp [Addr.add]
    rw [this]; simp
  · obtain ⟨b, o, cs, t, e, g, hcs⟩ := hx (by rintro rfl; simp at hne)
    refine ⟨b, o, cs, t, e, g, fun j x hj => hcs j x ?_⟩
    rw [List.getElem?_take] at hj
    split at hj
    · exact hj
    · cases hj
theorem Contains_ok {v : Int} (h : Sees w sv l) (hl : l.length ≤ 65536) (k : K (.bool (decide (v ∈ l))) w) : Cl pg 35 #[sv, .int .i64 v] K w := by
  refine V.slices_Contains_int_int_ok ?_
  unfold V.slices_Contains_int_int
  refine call_of (fun _ _ => rfl) (V.slices_Index_int_int_ok ?_)
  unfold V.slices_Index_int_int
  refine h.len ?_
  refine ⟨fun vs w' => ∃ (u : Value) (i : Nat), vs = [u, .int .i64 i] ∧ i ≤ l.length ∧ v ∉ l.take i ∧ w' = w, fun vs _ => match vs with | [_, .int _ i] => l.length - i.toNat | _ => 0, ⟨_, 0, rfl, by omega, by simp, rfl⟩, ?_⟩
  rintro _ w' ⟨u, i, rfl, hi, hno, rfl⟩ _
  simp +decide only [UN, Cnd_b, BinI_lss, BinI_geq, decide_eq_true_eq, decide_eq_false_iff_not]
  refine ⟨fun hlt => ?_, fun hge => ?_⟩
  · obtain ⟨b, o, hia, hld⟩ := h.elem (i := (i : Int)) (by omega) hlt
    have hlt' : i < l.length := by omega
    refine hia _ _ (hld _ ?_)
    simp +decide only [Cnd_b, BinI_add, BinI_eql, BinI_geq, decide_eq_true_eq, decide_eq_false_iff_not, and_true]
    refine ⟨fun e => ?_, fun e => ?_⟩
    · have hin : v ∈ l := by rw [e]; exact List.getElem_mem _
      have h0 : decide ((0 : Int) ≤ i) = true := by simp
      simpa [hin, h0] using k
    · rw [w64 (by omega) (by omega)]
      refine ⟨⟨u, i + 1, by simp, by omega, ?_⟩, by show l.length - ((i : Int) + 1).toNat < l.length - (i : Int).toNat; omega⟩
      rw [List.take_succ_eq_append_getElem hlt']
      simp only [List.mem_append, List.mem_singleton, not_or]
      exact ⟨hno, e⟩
  · have e : l.take i = l := List.take_of_length_le (by omega)
    rw [e] at hno
    simpa [hno] using k
end
end Go.Proofs.Ytgcnebacjkpfmaa
