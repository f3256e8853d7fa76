/- The law of finding handles ('jacinthlaw06.HandlesFinds'): for every entry, draw, type and need it returns true, and what was there stays. -/
import Derived.Test.YtgcnebacjkpfmaaRows
import Derived.Test.YtgcnebacjkpfmaaHf
import Derived.Test.YtgcnebacjkpfmaaR
import Derived.WalkKit
import Derived.ProofKit
namespace Go.Proofs.Ytgcnebacjkpfmaa.handlesFinds
open Go Go.Jac Go.ChangeShapes Go.WideShapes Go.ChangeAt Go.RowKit
set_option maxRecDepth 100000

theorem own : ownKnob Try.prog.godebug = none := by kernel_rfl
theorem lifted (os : Os) (started : os.Started) (H : Type) (enc : TypeId × Value → H) :
    ReturnsInHanded {} Try.checked os 5 .any (Rows.handlesFindsSpec.pre6 enc Try.prog Try.f5 Rows.handlesFindsRow.domain false) (Rows.handlesFindsSpec.post enc Try.prog Try.f5 false true false false) := by
  refine returnsInHanded_of_change (C := Try.checked) own started (by kernel_rfl) Try.func5
    (ChangeSpec.witness6 (enc := enc) (C := Try.checked) false ⟨#[], #[.agg #[.int .i64 0, .int .i64 0, .int .i64 0, .int .i64 0, .int .i64 0, .int .i64 0]], []⟩ 8 (by kernel_rfl) (by kernel_rfl) (by kernel_rfl) (by kernel_rfl)) ?_
  intro W base args ds gs before hval0 hW hcnd _
  have hval : ∀ (j : Nat) t v, Try.f5.params[j]? = some t → args[j]? = some v → Value.okWide Try.prog W .any base t v := hval0
  have hW' := hW
  obtain ⟨p, q, hA0, hV, rfl, hfz, hnd⟩ := hW
  have hA : DataW.TrodAll enc Try.prog W 0 (fun _ => true) true Try.f5.params.toList args.toList ds p := hA0
  rw [Try.params5] at hA hval
  obtain ⟨v0, vs0, d0, ds0, p0, q0, hargs, rfl, rfl, h0, r0⟩ := trodAll_cons hA
  obtain ⟨_, rfl, rfl⟩ := trodAll_nil r0
  obtain rfl : args = #[v0] := by cases args; simp_all
  obtain ⟨rfl, rfl⟩ := trodVars_none hV
  obtain ⟨x0, x1, x2, x3, x4, x5, e, -⟩ := rd40 (Rd.of h0)
  obtain ⟨cs, rfl, -, -⟩ : ∃ cs, v0 = .agg cs ∧ cs.size = Try.prog.cellsOf 40 ∧ Row.okWide Try.prog W .any base 40 cs := by
    have h := hval 0 40 v0 rfl rfl
    unfold Value.okWide at h
    rw [Try.underlying40] at h
    exact h
  obtain rfl : cs = #[.int .i64 x0, .int .i64 x1, .int .i64 x2, .int .i64 x3, .int .i64 x4, .int .i64 x5] := Array.toList_inj.1 e
  refine (law_walk (P := Try.prog) fun K k => finds_ok (D.start W) k).mono fun e W' ⟨he, hB⟩ => ⟨_, he, ?_⟩
  exact law_post (tb := 4) (by kernel_rfl) (by decide_cbv) rfl rfl Try.underlying4 hW' rfl hB
theorem over : Rows.handlesFindsRow.holds Try.pinned (OpenSpec.ofChange Rows.handlesFindsSpec) :=
  OpenClaim.holds_of_wide 5 Try.f5 rfl rfl rfl rfl rfl rfl rfl ⟨rfl, rfl, rfl, rfl, rfl⟩ rfl rfl rfl rfl rfl (by kernel_rfl) Try.func5 (by kernel_rfl)
    (of_decide_eq_true (by kernel_rfl)) (by unfold Func.isWrapper; first | (rw [if_pos (by decide +kernel)]; kernel_rfl) | (rw [if_neg (by decide +kernel)]; exact ⟨rfl, rfl⟩))
    (fun os started H enc _ => lifted os started H enc)
theorem proved : Rows.HandlesFindsSaid := over
#print axioms proved
end Go.Proofs.Ytgcnebacjkpfmaa.handlesFinds
