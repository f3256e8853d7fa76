/- Memory: bytes compared, bytes that were there. -/
import Derived.Test.YtlcbfahjejgjlaaMn
import Derived.Laws.BytesString
import Derived.Laws.BytesArg
set_option maxRecDepth 100000
set_option maxHeartbeats 8000000
namespace Go.Proofs.Ytlcbfahjejgjlaa
open Go Go.Jac
section
variable {w0 w : World} {L : List HP} {K : Value → WP} {av bv sv : Value} {l : List Int}
theorem conv_ok (h : SeesB w sv l) (k : ∀ s, s = (⟨(l.map fun n => UInt8.ofNat n.toNat).toArray⟩ : ByteArray) → K (.string s) w) : Ex pg (convert 22 9 sv) K w := by
  obtain ⟨p, c, rfl, -, hx⟩ := h
  by_cases hl : l = []
  · subst hl
    refine ⟨_, w, ?_, k _ rfl⟩
    rw [run_convert_bytes_string w 22 9 5 p _ c Try.underlying22 Try.underlying5 Try.underlying9]
    cases p with
    | none => simp [Conv.bytesToString]; rfl
    | some a =>
      rw [List.length_nil, run_bytesToString w a 0 c [] (by have := run_loadCells_list (P := pg) w a [] (fun j v hv => by simp at hv); simpa using this)]
      rfl
  · obtain ⟨a, rfl, hcs⟩ := hx hl
    refine ⟨_, w, ?_, k _ rfl⟩
    rw [run_convert_bytes_string w 22 9 5 (some a) _ c Try.underlying22 Try.underlying5 Try.underlying9, run_bytesToString w a _ c l ?_, foldl_push_bytes]
    · simp [ByteArray.empty, ByteArray.emptyWithCapacity]
      rfl
    · have := run_loadCells_list (P := pg) w a (l.map (Value.int .u8)) (fun j v hj => by
        rw [List.getElem?_map] at hj
        cases hg : l[j]? with
        | none => rw [hg] at hj; cases hj
        | some y =>
          rw [hg] at hj
          obtain rfl := Option.some.inj hj
          exact hcs j y hg)
      simpa using this
theorem streq {t : TypeId} {ox oy : Operand} {a b : ByteArray} (k : K (.bool (a.toList == b.toList)) w) : BinX pg .eql t ox oy (.string a) (.string b) K w := by
  have hg : (eqGuard .eql t ox oy (.string a) (.string b)).run pg w = .ok () w := by unfold eqGuard; rfl
  exact ⟨_, w, by rw [Sem.run_bind, hg, binOp_string_eql]; rfl, k⟩
theorem Same_ok (ha : SeesB w av l) (hb : SeesB w bv l) (k : K (.bool true) w) : Cl pg 15 #[av, bv] K w := by
  refine V.jacinthref07_Same_ok ?_
  unfold V.jacinthref07_Same
  refine conv_ok ha fun s hs => conv_ok hb fun s' hs' => ?_
  refine streq ?_
  rw [hs, hs', beq_self_eq_true]
  exact k
/-- A list of bytes that was there. -/
theorem bytes_of (h : Rd pg w0 22 [sv]) : ∃ l : List Int, l.length ≤ maxLen ∧ SeesBA w0 (Old w0) sv l ∧ (∀ x ∈ l, 0 ≤ x ∧ x ≤ 255) := by
  rcases h.slice Try.underlying22 with e | ⟨a, len, cap, e, hl, hc, hx⟩
  · cases e
    exact ⟨[], Nat.zero_le _, fun L w d => ⟨none, 0, rfl, Nat.le_refl _, fun h => absurd rfl h⟩, by simp⟩
  · cases e
    rw [show pg.cellsOf 5 = 1 from by kernel_rfl] at hx
    have key : ∀ n, n ≤ len → ∃ l : List Int, l.length = n ∧ (∀ j x, l[j]? = some x → w0.cell? (a.add j) = some (.int .u8 x)) ∧ (∀ x ∈ l, 0 ≤ x ∧ x ≤ 255) := by
      intro n
      induction n with
      | zero => exact fun _ => ⟨[], rfl, by simp, by simp⟩
      | succ n ih =>
        intro hn
        obtain ⟨l, h1, h2, h3⟩ := ih (by omega)
        obtain ⟨vs, hv1, hv2, hv3⟩ := hx n (by omega)
        obtain ⟨x, rfl, hwf⟩ := Rd.int Try.underlying5 hv3
        refine ⟨l ++ [x], by simp [h1], fun j y hj => ?_, fun y hy => ?_⟩
        · rcases Nat.lt_trichotomy j n with h | h | h
          · rw [List.getElem?_append_left (by omega)] at hj
            exact h2 j y hj
          · rw [List.getElem?_append_right (by omega), h1, h, Nat.sub_self] at hj
            obtain rfl := Option.some.inj hj
            have := hv2 0 _ rfl
            rw [Addr.add_zero, Nat.mul_one] at this
            rw [h]; exact this
          · rw [List.getElem?_eq_none (by simp; omega)] at hj
            cases hj
        · rcases List.mem_append.1 hy with h | h
          · exact h3 y h
          · rw [List.mem_singleton.1 h]
            simp [Lit.wf, IntKind.min, IntKind.max, IntKind.signed, IntKind.bits] at hwf
            omega
    obtain ⟨l, h1, h2, h3⟩ := key len (Nat.le_refl _)
    refine ⟨l, by omega, fun L w d => ⟨some a, cap, by rw [h1], by omega, fun _ => ⟨a, rfl, fun j x hj => d.oldc (by simp) (h2 j x hj)⟩⟩, h3⟩
end
end Go.Proofs.Ytlcbfahjejgjlaa
