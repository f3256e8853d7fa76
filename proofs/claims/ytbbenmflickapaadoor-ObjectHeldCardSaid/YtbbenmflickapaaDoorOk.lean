/- Objects: what the table of names gives to a walk. -/
import Derived.Test.YtbbenmflickapaaDoorRows
import Derived.Test.YtbbenmflickapaaDoorOj
import Derived.Lib.LaidTab
set_option maxRecDepth 100000
namespace Go.Proofs.YtbbenmflickapaaDoor
open Go Go.Jac
def nmsL : List (List UInt8) := [[], [106, 111, 98], [112, 114, 111, 99, 101, 115, 115], [116, 104, 114, 101, 97, 100], [99, 104, 97, 110, 110, 101, 108], [115, 111, 99, 107, 101, 116], [102, 105, 102, 111], [101, 118, 101, 110, 116], [101, 118, 101, 110, 116, 112, 97, 105, 114], [112, 111, 114, 116], [116, 105, 109, 101, 114], [118, 109, 111]]
theorem nms_laid {H : Type} : (Rows.laid_jacinth_rights_names : DataW H) = .agg (nmsL.map fun s => (DataW.lit (Lit.string s) : DataW H)) := rfl
theorem cells_of_names {H : Type} {enc : TypeId × Value → H} {P : Program} {w : World} {base : Nat} {sp : Nat → Bool} {held : Bool} {fuel : Nat} {t e : TypeId} {n : Nat} {cs : List Value} {ss : List (List UInt8)} {p : List MemPlace}
    (ht : P.underlying t = some (.array n e)) (he : P.underlying e = some .string) (hce : P.cellsOf e = 1) (hct : P.cellsOf t = n)
    (h : DataW.trod enc P w base sp held fuel t cs = some (.agg (ss.map fun s => (DataW.lit (Lit.string s) : DataW H)), p)) : ∀ (i : Nat) s, ss[i]? = some s → ∃ b : ByteArray, cs[i]? = some (.string b) ∧ b.data.toList = s := by
  cases fuel with
  | zero => simp [DataW.trod] at h
  | succ fuel =>
    simp only [DataW.trod, ht, hce, hct, Nat.mul_one] at h
    split at h
    · rename_i hl
      obtain ⟨xs, hm, hx⟩ := Option.map_eq_some_iff.1 h
      have hxs : xs.map (·.1) = ss.map fun s => (DataW.lit (.string s) : DataW H) := by
        have := congrArg Prod.fst hx
        simpa using this
      have hxl : xs.length = n := by simpa using Lib.mapM_length hm
      have hzl : ss.length = n := by
        have := congrArg List.length hxs
        simp at this
        omega
      intro i s hi
      have hin : i < n := by have := (List.getElem?_eq_some_iff.1 hi).1; omega
      obtain ⟨b, hb, hf⟩ := Lib.mapM_at hm i i (by simp [hin])
      obtain ⟨z, hc, rfl, _⟩ := DataW.trod_string he hf
      refine ⟨z, ?_, ?_⟩
      · have := congrArg (·[0]?) hc
        simpa [List.getElem?_take, List.getElem?_drop] using this
      · have h2 : (xs.map (·.1))[i]? = some (DataW.lit (.string z.data.toList) : DataW H) := by simp [hb]
        rw [hxs, List.getElem?_map, hi] at h2
        simpa using h2.symm
    · cases h
theorem gNm : Tryd.prog.globalNamed "jacinth/rights.names" = some 0 := by kernel_rfl
theorem gNmType : (Tryd.prog.globals[0]?).map (·.type) = some 79 := by kernel_rfl
theorem cells79 : Tryd.prog.cellsOf 79 = 12 := by kernel_rfl
theorem cells9 : Tryd.prog.cellsOf 9 = 1 := by kernel_rfl
theorem nmd_of {W : World} (h : laidMet Tryd.prog [("jacinth/rights.names", Rows.laid_jacinth_rights_names)] W) : Nmd W := by
  obtain ⟨ps, ⟨g', t', cs, fuel, p, q, hg', ht', hvar, hd, _, _⟩, _⟩ := h
  obtain rfl := Option.some.inj (gNm.symm.trans hg')
  obtain rfl := Option.some.inj (gNmType.symm.trans ht')
  rw [nms_laid] at hd
  have key := cells_of_names Tryd.underlying79 Tryd.underlying9 cells9 cells79 hd
  intro i hi
  obtain ⟨s, hs⟩ : ∃ s, nmsL[i]? = some s := ⟨_, List.getElem?_eq_getElem (by show i < 12; exact hi)⟩
  obtain ⟨b, hb, hbs⟩ := key i s hs
  refine ⟨b, ?_, ?_⟩
  · have := World.var?_cell gNm hvar i
    rw [this, ← Array.getElem?_toList]
    exact hb
  · have e : b = ⟨s.toArray⟩ := by rw [← hbs]
    subst e
    have this : ∀ i < 12, ∀ s, nmsL[i]? = some s → ((ByteArray.mk s.toArray).toList == []) = decide (i = 0) := by
      intro i hi s hs
      match i, hi with
      | 0, _ => exact (Option.some.inj hs) ▸ (show ((ByteArray.mk (([] : List UInt8)).toArray).toList == []) = decide (0 = 0) from by kernel_rfl)
      | 1, _ => exact (Option.some.inj hs) ▸ (show ((ByteArray.mk (([106, 111, 98] : List UInt8)).toArray).toList == []) = decide (1 = 0) from by kernel_rfl)
      | 2, _ => exact (Option.some.inj hs) ▸ (show ((ByteArray.mk (([112, 114, 111, 99, 101, 115, 115] : List UInt8)).toArray).toList == []) = decide (2 = 0) from by kernel_rfl)
      | 3, _ => exact (Option.some.inj hs) ▸ (show ((ByteArray.mk (([116, 104, 114, 101, 97, 100] : List UInt8)).toArray).toList == []) = decide (3 = 0) from by kernel_rfl)
      | 4, _ => exact (Option.some.inj hs) ▸ (show ((ByteArray.mk (([99, 104, 97, 110, 110, 101, 108] : List UInt8)).toArray).toList == []) = decide (4 = 0) from by kernel_rfl)
      | 5, _ => exact (Option.some.inj hs) ▸ (show ((ByteArray.mk (([115, 111, 99, 107, 101, 116] : List UInt8)).toArray).toList == []) = decide (5 = 0) from by kernel_rfl)
      | 6, _ => exact (Option.some.inj hs) ▸ (show ((ByteArray.mk (([102, 105, 102, 111] : List UInt8)).toArray).toList == []) = decide (6 = 0) from by kernel_rfl)
      | 7, _ => exact (Option.some.inj hs) ▸ (show ((ByteArray.mk (([101, 118, 101, 110, 116] : List UInt8)).toArray).toList == []) = decide (7 = 0) from by kernel_rfl)
      | 8, _ => exact (Option.some.inj hs) ▸ (show ((ByteArray.mk (([101, 118, 101, 110, 116, 112, 97, 105, 114] : List UInt8)).toArray).toList == []) = decide (8 = 0) from by kernel_rfl)
      | 9, _ => exact (Option.some.inj hs) ▸ (show ((ByteArray.mk (([112, 111, 114, 116] : List UInt8)).toArray).toList == []) = decide (9 = 0) from by kernel_rfl)
      | 10, _ => exact (Option.some.inj hs) ▸ (show ((ByteArray.mk (([116, 105, 109, 101, 114] : List UInt8)).toArray).toList == []) = decide (10 = 0) from by kernel_rfl)
      | 11, _ => exact (Option.some.inj hs) ▸ (show ((ByteArray.mk (([118, 109, 111] : List UInt8)).toArray).toList == []) = decide (11 = 0) from by kernel_rfl)
    exact this i hi s hs
end Go.Proofs.YtbbenmflickapaaDoor
