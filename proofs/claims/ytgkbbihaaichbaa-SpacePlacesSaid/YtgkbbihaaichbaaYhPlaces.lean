/- Several texts of this session's own, joined: XEPlaces. -/
import Derived.Test.YtgkbbihaaichbaaRows
import Derived.Test.YtgkbbihaaichbaaYh
import Derived.Test.YtgkbbihaaichbaaYc
import Derived.WalkKit
import Derived.ProofKit
namespace Go.Proofs.Ytgkbbihaaichbaa.spacePlaces
open Go Go.Jac Go.ChangeShapes Go.WideShapes Go.ChangeAt Go.RowKit
set_option maxRecDepth 100000

theorem own : ownKnob Try.prog.godebug = none := by kernel_rfl
theorem lifted (os : Os) (started : os.Started) (H : Type) (enc : TypeId × Value → H) :
    ReturnsInHanded {} Try.checked os 3 .any (Rows.spacePlacesSpec.pre6 enc Try.prog Try.f3 Rows.spacePlacesRow.domain false) (Rows.spacePlacesSpec.post enc Try.prog Try.f3 false true false false) := by
  refine returnsInHanded_of_change (C := Try.checked) own started (by kernel_rfl) Try.func3
    (ChangeSpec.witness6 (enc := enc) (C := Try.checked) false ⟨#[], #[.slice none 0 0], []⟩ 8 (by kernel_rfl) (by kernel_rfl) (by kernel_rfl) (by kernel_rfl)) ?_
  intro W base args ds gs before hval0 hW hcnd _
  have hval : ∀ (j : Nat) t v, Try.f3.params[j]? = some t → args[j]? = some v → Value.okWide Try.prog W .any base t v := hval0
  have hW' := hW
  obtain ⟨p, q, hA0, hV, rfl, hfz, hnd⟩ := hW
  have hA : DataW.TrodAll enc Try.prog W 0 (fun _ => true) true Try.f3.params.toList args.toList ds p := hA0
  rw [Try.params3] at hA hval
  obtain ⟨v0, vs0, d0, ds0, p0, q0, hargs, rfl, rfl, h0, r0⟩ := trodAll_cons hA
  obtain ⟨_, rfl, rfl⟩ := trodAll_nil r0
  obtain rfl : args = #[v0] := by cases args; simp_all
  obtain ⟨rfl, rfl⟩ := trodVars_none hV
  obtain ⟨sa0, sl0, sc0, rfl⟩ := okWide_slice Try.underlying22 (hval 0 22 v0 rfl rfl)
  have y0 : Rd Try.prog W 22 [.slice sa0 sl0 sc0] := Rd.of h0
  obtain ⟨n0, o0⟩ := osl_of (es := 1) Try.underlying22 (by kernel_rfl) y0
  refine (law_walk (P := Try.prog) fun K k => splaces_law o0 (D.start W) k).mono fun e W' ⟨he, hB⟩ => ⟨_, he, ?_⟩
  exact law_post (tb := 4) (by kernel_rfl) (by decide_cbv) rfl rfl Try.underlying4 hW' rfl hB
theorem over : Rows.spacePlacesRow.holds Try.pinned (OpenSpec.ofChange Rows.spacePlacesSpec) :=
  OpenClaim.holds_of_wide 3 Try.f3 rfl rfl rfl rfl rfl rfl rfl ⟨rfl, rfl, rfl, rfl, rfl⟩ rfl rfl rfl rfl rfl (by kernel_rfl) Try.func3 (by kernel_rfl)
    (of_decide_eq_true (by kernel_rfl)) (by unfold Func.isWrapper; first | (rw [if_pos (by decide +kernel)]; kernel_rfl) | (rw [if_neg (by decide +kernel)]; exact ⟨rfl, rfl⟩))
    (fun os started H enc _ => lifted os started H enc)
theorem proved : Rows.SpacePlacesSaid := over
#print axioms proved
end Go.Proofs.Ytgkbbihaaichbaa.spacePlaces
