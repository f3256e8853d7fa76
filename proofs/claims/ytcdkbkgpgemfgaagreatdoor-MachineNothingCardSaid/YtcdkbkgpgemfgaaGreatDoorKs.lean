/- The laws' fixed answers (awake, alive): runs. -/
import Derived.Test.YtcdkbkgpgemfgaaGreatDoorRows
import Derived.Test.YtcdkbkgpgemfgaaGreatDoorKq
import Derived.Lib.LaidTab
set_option maxRecDepth 100000
namespace Go.Proofs.YtcdkbkgpgemfgaaGreatDoor
open Go Go.Jac
def nmsL : List (List UInt8) := [[], [106, 111, 98], [112, 114, 111, 99, 101, 115, 115], [116, 104, 114, 101, 97, 100], [99, 104, 97, 110, 110, 101, 108], [115, 111, 99, 107, 101, 116], [102, 105, 102, 111], [101, 118, 101, 110, 116], [101, 118, 101, 110, 116, 112, 97, 105, 114], [112, 111, 114, 116], [116, 105, 109, 101, 114], [118, 109, 111]]
theorem nms_laid {H : Type} : (Rows.laid_jacinth_rights_names : DataW H) = .agg (nmsL.map fun s => (DataW.lit (Lit.string s) : DataW H)) := rfl
theorem cells_of_names {H : Type} {enc : TypeId × Value → H} {P : Program} {w : World} {base : Nat} {sp : Nat → Bool} {held : Bool} {fuel : Nat} {t e : TypeId} {n : Nat} {cs : List Value} {ss : List (List UInt8)} {p : List MemPlace}
    (ht : P.underlying t = some (.array n e)) (he : P.underlying e = some .string) (hce : P.cellsOf e = 1) (hct : P.cellsOf t = n)
    (h : DataW.trod enc P w base sp held fuel t cs = some (.agg (ss.map fun s => (DataW.lit (Lit.string s) : DataW H)), p)) : ∀ (i : Nat) s, ss[i]? = some s → ∃ b : ByteArray, cs[i]? = some (.string b) ∧ b.data.toList = s := by
  cases fuel with
  | zero => simp [DataW.trod] at h
  | succ fuel =>
    simp only [DataW.trod, ht, hce, hct, Nat.mul_one] at h
    split at h
    · rename_i hl
      obtain ⟨xs, hm, hx⟩ := Option.map_eq_some_iff.1 h
      have hxs : xs.map (·.1) = ss.map fun s => (DataW.lit (.string s) : DataW H) := by
        have := congrArg Prod.fst hx
        simpa using this
      have hxl : xs.length = n := by simpa using Lib.mapM_length hm
      have hzl : ss.length = n := by
        have := congrArg List.length hxs
        simp at this
        omega
      intro i s hi
      have hin : i < n := by have := (List.getElem?_eq_some_iff.1 hi).1; omega
      obtain ⟨b, hb, hf⟩ := Lib.mapM_at hm i i (by simp [hin])
      obtain ⟨z, hc, rfl, _⟩ := DataW.trod_string he hf
      refine ⟨z, ?_, ?_⟩
      · have := congrArg (·[0]?) hc
        simpa [List.getElem?_take, List.getElem?_drop] using this
      · have h2 : (xs.map (·.1))[i]? = some (DataW.lit (.string z.data.toList) : DataW H) := by simp [hb]
        rw [hxs, List.getElem?_map, hi] at h2
        simpa using h2.symm
    · cases h
theorem gNm : Tryz.prog.globalNamed "jacinth/rights.names" = some 0 := by kernel_rfl
theorem gNmType : (Tryz.prog.globals[0]?).map (·.type) = some 254 := by kernel_rfl
theorem cellsNm : Tryz.prog.cellsOf 254 = 12 := by kernel_rfl
theorem cellsSt : Tryz.prog.cellsOf 9 = 1 := by kernel_rfl
/-- The table of names, when the walk began. -/
def Nmd (w0 : World) : Prop := ∀ i s, nmsL[i]? = some s → w0.cell? ⟨0, i, none⟩ = some (.string ⟨s.toArray⟩)
theorem nmd_of {W : World} (h : laidMet Tryz.prog [("jacinth/rights.names", Rows.laid_jacinth_rights_names)] W) : Nmd W := by
  obtain ⟨ps, ⟨g', t', cs, fuel, p, q, hg', ht', hvar, hd, _, _⟩, _⟩ := h
  obtain rfl := Option.some.inj (gNm.symm.trans hg')
  obtain rfl := Option.some.inj (gNmType.symm.trans ht')
  rw [nms_laid] at hd
  have key := cells_of_names Tryz.underlying254 Tryz.underlying9 cellsSt cellsNm hd
  intro i s hs
  obtain ⟨b, hb, hbs⟩ := key i s hs
  have := World.var?_cell gNm hvar i
  rw [this, ← Array.getElem?_toList]
  have e : b = ⟨s.toArray⟩ := by rw [← hbs]
  rw [← e]
  exact hb
def nmC : List X := nmsL.map fun s => X.lit (.string ⟨s.toArray⟩)
def glN (g : Nat) : Option (List X) := cond (Nat.beq g 0) (some nmC) none
/-- No unknown numbers. -/
def gv0 : Gv := ⟨glN, fun _ _ _ => none, fun _ _ => none, fun _ _ _ => none⟩
theorem glN_ok {AT : Nat → Nat → Value} {w0 : World} {F : List HP} (hN : Nmd w0) (hm : Old w0 ∈ F) : ∀ w L, D w0 (L ++ F) w → ∀ g cs, glN g = some cs → ∃ vs, (∀ σ, DL AT σ cs vs) ∧ ∀ j v, vs[j]? = some v → w.cell? ⟨g, j, none⟩ = some v := by
  intro w L d g cs h
  unfold glN at h
  cases hg : Nat.beq g 0 with
  | false => rw [hg] at h; cases h
  | true =>
    rw [hg] at h
    cases h
    have hg := beq_eq hg
    subst hg
    refine ⟨nmsL.map fun s => .string ⟨s.toArray⟩, fun σ => ?_, fun j v hv => ?_⟩
    · unfold nmC DL
      rw [List.map_map, List.map_map]
      rfl
    · rw [List.getElem?_map] at hv
      obtain ⟨s, hs, rfl⟩ := Option.map_eq_some_iff.1 hv
      exact d.oldc (List.mem_append_right _ hm) (hN j s hs)
theorem gv0_ok {AT : Nat → Nat → Value} {w0 : World} {F : List HP} (hN : Nmd w0) (hm : Old w0 ∈ F) : GLok AT gv0 w0 F := ⟨glN_ok hN hm, (fun _ _ _ _ h => by cases h), (fun _ _ _ h => by cases h), (fun _ _ _ _ h => by cases h)⟩
/-! ### Functions that are told -/
def KL : List (Nat × Nat) := [(148, 162), (311, 87), (374, 88)]
theorem KL_ok : ∀ p ∈ KL, KeysOk p.1 p.2 := by
  intro p hp
  unfold KL at hp
  simp only [List.mem_cons, List.not_mem_nil, or_false] at hp
  rcases hp with rfl | rfl | rfl
  · exact ⟨⟨_, Tryz.underlying162⟩, fun _ _ => rfl, fun h => V.maps_Keys_c1_map_int_header_int_header_ok h⟩
  · exact ⟨⟨_, Tryz.underlying87⟩, fun _ _ => rfl, fun h => V.maps_Keys_c1_map_int_Port_int_Port_ok h⟩
  · exact ⟨⟨_, Tryz.underlying88⟩, fun _ _ => rfl, fun h => V.maps_Keys_c1_map_int_int_int_int_ok h⟩
def keysArg (args : List X) : Bool := match args with
  | [.fn (.func kf) [] _] => hasK KL kf
  | _ => false
def intr0 (k : Nat) (args : List X) : Option (XS → R (X × XS)) := cond (Nat.beq k 85) (cond (keysArg args) (some (sortedX KL 3 args)) none) none
theorem intr0_ok {AT : Nat → Nat → Value} {w0 : World} {F : List HP} : IOk AT pg w0 F intr0 := by
  intro k args f h
  unfold intr0 at h
  cases hk : Nat.beq k 85 with
  | false => rw [hk] at h; cases h
  | true =>
    rw [hk, cond_true] at h
    cases hg : keysArg args with
    | false => rw [hg] at h; cases h
    | true =>
      rw [hg] at h
      have hk := beq_eq hk
      subst hk
      cases h
      exact ⟨fun _ _ => rfl, fun S x S' h σ vs w K hd r k => sortedX_ok KL_ok args S x S' h σ vs w K hd r k⟩
/-! ### A run from nothing -/
def s0 : XS := ⟨1000, []⟩
theorem D.under_ {w0 w : World} {L F : List HP} (d : D w0 (L ++ F) w) : D w0 F w := by
  induction L with
  | nil => exact d
  | cons A L ih => exact ih d.tail
def isTrue : R (X × XS) → Bool
  | .ok (.bool true, _) => true
  | _ => false
theorem isTrue_ok {r : R (X × XS)} (h : isTrue r = true) : ∃ S, r = .ok (.bool true, S) := by
  unfold isTrue at h
  split at h
  · exact ⟨_, rfl⟩
  · cases h
theorem true_of {AT : Nat → Nat → Value} (hAT : ∀ i c, (AT i c).oneCell' = true) {gv : Gv} {w0 w : World} {L : List HP} {k : Nat} {args : List X} {vs : List Value} {K : Value → WP} (hG : GLok AT gv w0 L) (hd : DL AT (fun _ => none) args vs) (h : isTrue (xRun pg gv intr0 3000 60 true k args s0) = true) (d : D w0 L w) (kk : ∀ w', D w0 L w' → K (.bool true) w') : Cl pg k vs.toArray K w := by
  obtain ⟨S, hS⟩ := isTrue_ok h
  refine (run_ok pg_mixed hAT hG (fun _ => intr0_ok) 60 []).fn k args s0 _ S hS (fun _ => none) vs w K hd ⟨d, fun _ _ => rfl⟩ fun σ v w' _ r hv => ?_
  cases den_bool.1 hv
  exact kk w' (D.under_ r.d)
end Go.Proofs.YtcdkbkgpgemfgaaGreatDoor
set_option maxRecDepth 1000000
namespace Go.Proofs.YtcdkbkgpgemfgaaGreatDoor
open Go Go.Jac
theorem awake_run0 : isTrue (xRun pg gv0 intr0 3000 60 true 22 [] s0) = true := by kernel_rfl
theorem awake_run1 : isTrue (xRun pg gv0 intr0 3000 60 true 28 [] s0) = true := by kernel_rfl
theorem awake_run2 : isTrue (xRun pg gv0 intr0 3000 60 true 16 [] s0) = true := by kernel_rfl
theorem awake_run3 : isTrue (xRun pg gv0 intr0 3000 60 true 8 [] s0) = true := by kernel_rfl
/-- The functions that are told to be true. -/
def awL : List Nat := [22, 28, 16, 8]
theorem awL_run : ∀ k ∈ awL, isTrue (xRun pg gv0 intr0 3000 60 true k [] s0) = true := by
  intro k hk
  simp only [awL, List.mem_cons, List.not_mem_nil, or_false] at hk
  rcases hk with rfl | rfl | rfl | rfl
  · exact awake_run0
  · exact awake_run1
  · exact awake_run2
  · exact awake_run3
theorem awL_call : ∀ k ∈ awL, ∀ (a : Array Value) (w : World), (callFunc k a).run pg w = .ok (.enter k a) w := by
  intro k hk
  simp only [awL, List.mem_cons, List.not_mem_nil, or_false] at hk
  rcases hk with rfl | rfl | rfl | rfl
  · exact fun _ _ => rfl
  · exact fun _ _ => rfl
  · exact fun _ _ => rfl
  · exact fun _ _ => rfl
theorem awake_ok {j : Nat} (hj : j ∈ awL) {w0 w : World} {L : List HP} {K : Value → WP} (hN : Nmd w0) (hm : Old w0 ∈ L) (d : D w0 L w) (k : ∀ w', D w0 L w' → K (.bool true) w') : Cl pg j #[] K w :=
  true_of (AT := fun _ _ => .bool true) (fun _ _ => rfl) (gv0_ok hN hm) (vs := []) rfl (awL_run j hj) d k
end Go.Proofs.YtcdkbkgpgemfgaaGreatDoor
