/- Several texts of this session's own, joined: XEGuards. -/
import Derived.Test.YtgkbbihaaichbaaRows
import Derived.Test.YtgkbbihaaichbaaYl
import Derived.Test.YtgkbbihaaichbaaYc
import Derived.WalkKit
import Derived.ProofKit
namespace Go.Proofs.Ytgkbbihaaichbaa.spaceGuards
open Go Go.Jac Go.ChangeShapes Go.WideShapes Go.ChangeAt Go.RowKit
set_option maxRecDepth 100000

theorem own : ownKnob Try.prog.godebug = none := by kernel_rfl
theorem lifted (os : Os) (started : os.Started) (H : Type) (enc : TypeId × Value → H) :
    ReturnsInHanded {} Try.checked os 5 .any (Rows.spaceGuardsSpec.pre6 enc Try.prog Try.f5 Rows.spaceGuardsRow.domain false) (Rows.spaceGuardsSpec.post enc Try.prog Try.f5 false true false false) := by
  refine returnsInHanded_of_change (C := Try.checked) own started (by kernel_rfl) Try.func5
    (ChangeSpec.witness6 (enc := enc) (C := Try.checked) false ⟨#[], #[.agg #[.int .i64 0, .int .i64 0, .int .i64 0, .int .i64 0]], []⟩ 8 (by kernel_rfl) (by kernel_rfl) (by kernel_rfl) (by kernel_rfl)) ?_
  intro W base args ds gs before hval0 hW hcnd _
  have hval : ∀ (j : Nat) t v, Try.f5.params[j]? = some t → args[j]? = some v → Value.okWide Try.prog W .any base t v := hval0
  have hW' := hW
  obtain ⟨p, q, hA0, hV, rfl, hfz, hnd⟩ := hW
  have hA : DataW.TrodAll enc Try.prog W 0 (fun _ => true) true Try.f5.params.toList args.toList ds p := hA0
  rw [Try.params5] at hA hval
  obtain ⟨v0, vs0, d0, ds0, p0, q0, hargs, rfl, rfl, h0, r0⟩ := trodAll_cons hA
  obtain ⟨_, rfl, rfl⟩ := trodAll_nil r0
  obtain rfl : args = #[v0] := by cases args; simp_all
  obtain ⟨rfl, rfl⟩ := trodVars_none hV
  obtain ⟨x0_0, x0_1, x0_2, x0_3, e0, y0_0, y0_1, y0_2, y0_3⟩ := rd44 (Rd.of h0)
  obtain ⟨cs0, rfl, -, -⟩ : ∃ cs, v0 = .agg cs ∧ cs.size = Try.prog.cellsOf 44 ∧ Row.okWide Try.prog W .any base 44 cs := by
    have h := hval 0 44 v0 rfl rfl
    unfold Value.okWide at h
    rw [Try.underlying44] at h
    exact h
  obtain rfl : cs0 = #[.int .i64 x0_0, .int .i64 x0_1, .int .i64 x0_2, .int .i64 x0_3] := Array.toList_inj.1 e0
  refine (law_walk (P := Try.prog) fun K k => sguards_law ⟨I64.of_wf y0_0, I64.of_wf y0_1, I64.of_wf y0_2, I64.of_wf y0_3⟩ (D.start W) k).mono fun e W' ⟨he, hB⟩ => ⟨_, he, ?_⟩
  exact law_post (tb := 4) (by kernel_rfl) (by decide_cbv) rfl rfl Try.underlying4 hW' rfl hB
theorem over : Rows.spaceGuardsRow.holds Try.pinned (OpenSpec.ofChange Rows.spaceGuardsSpec) :=
  OpenClaim.holds_of_wide 5 Try.f5 rfl rfl rfl rfl rfl rfl rfl ⟨rfl, rfl, rfl, rfl, rfl⟩ rfl rfl rfl rfl rfl (by kernel_rfl) Try.func5 (by kernel_rfl)
    (of_decide_eq_true (by kernel_rfl)) (by unfold Func.isWrapper; first | (rw [if_pos (by decide +kernel)]; kernel_rfl) | (rw [if_neg (by decide +kernel)]; exact ⟨rfl, rfl⟩))
    (fun os started H enc _ => lifted os started H enc)
theorem proved : Rows.SpaceGuardsSaid := over
#print axioms proved
end Go.Proofs.Ytgkbbihaaichbaa.spaceGuards
