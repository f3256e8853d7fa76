/- Several texts of this session's own, joined: XVEnds. -/
import Derived.Test.YtlcbfahjejgjlaaRows
import Derived.Test.YtlcbfahjejgjlaaYf
import Derived.Test.YtlcbfahjejgjlaaYc
import Derived.WalkKit
import Derived.ProofKit
namespace Go.Proofs.Ytlcbfahjejgjlaa.vmoEnds
open Go Go.Jac Go.ChangeShapes Go.WideShapes Go.ChangeAt Go.RowKit
set_option maxRecDepth 100000

theorem own : ownKnob Try.prog.godebug = none := by kernel_rfl
theorem lifted (os : Os) (started : os.Started) (H : Type) (enc : TypeId × Value → H) :
    ReturnsInHanded {} Try.checked os 7 .any (Rows.vmoEndsSpec.pre6 enc Try.prog Try.f7 Rows.vmoEndsRow.domain false) (Rows.vmoEndsSpec.post enc Try.prog Try.f7 false true false false) := by
  refine returnsInHanded_of_change (C := Try.checked) own started (by kernel_rfl) Try.func7
    (ChangeSpec.witness6 (enc := enc) (C := Try.checked) false ⟨#[], #[.slice none 0 0, .slice none 0 0], []⟩ 8 (by kernel_rfl) (by kernel_rfl) (by kernel_rfl) (by kernel_rfl)) ?_
  intro W base args ds gs before hval0 hW hcnd _
  have hval : ∀ (j : Nat) t v, Try.f7.params[j]? = some t → args[j]? = some v → Value.okWide Try.prog W .any base t v := hval0
  have hW' := hW
  obtain ⟨p, q, hA0, hV, rfl, hfz, hnd⟩ := hW
  have hA : DataW.TrodAll enc Try.prog W 0 (fun _ => true) true Try.f7.params.toList args.toList ds p := hA0
  rw [Try.params7] at hA hval
  obtain ⟨v0, vs0, d0, ds0, p0, q0, hargs, rfl, rfl, h0, r0⟩ := trodAll_cons hA
  obtain ⟨v1, vs1, d1, ds1, p1, q1, rfl, rfl, rfl, h1, r1⟩ := trodAll_cons r0
  obtain ⟨_, rfl, rfl⟩ := trodAll_nil r1
  obtain rfl : args = #[v0, v1] := by cases args; simp_all
  obtain ⟨rfl, rfl⟩ := trodVars_none hV
  obtain ⟨sa0, sl0, sc0, rfl⟩ := okWide_slice Try.underlying48 (hval 0 48 v0 rfl rfl)
  have y0 : Rd Try.prog W 48 [.slice sa0 sl0 sc0] := Rd.of h0
  obtain ⟨n0, o0⟩ := osl_of (es := 6) Try.underlying48 (by kernel_rfl) y0
  obtain ⟨sa1, sl1, sc1, rfl⟩ := okWide_slice Try.underlying49 (hval 1 49 v1 rfl rfl)
  have y1 : Rd Try.prog W 49 [.slice sa1 sl1 sc1] := Rd.of h1
  obtain ⟨n1, o1⟩ := osl_of (es := 1) Try.underlying49 (by kernel_rfl) y1
  refine (law_walk (P := Try.prog) fun K k => vends_law o0 o1 (D.start W) k).mono fun e W' ⟨he, hB⟩ => ⟨_, he, ?_⟩
  exact law_post (tb := 4) (by kernel_rfl) (by decide_cbv) rfl rfl Try.underlying4 hW' rfl hB
theorem over : Rows.vmoEndsRow.holds Try.pinned (OpenSpec.ofChange Rows.vmoEndsSpec) :=
  OpenClaim.holds_of_wide 7 Try.f7 rfl rfl rfl rfl rfl rfl rfl ⟨rfl, rfl, rfl, rfl, rfl⟩ rfl rfl rfl rfl rfl (by kernel_rfl) Try.func7 (by kernel_rfl)
    (of_decide_eq_true (by kernel_rfl)) (by unfold Func.isWrapper; first | (rw [if_pos (by decide +kernel)]; kernel_rfl) | (rw [if_neg (by decide +kernel)]; exact ⟨rfl, rfl⟩))
    (fun os started H enc _ => lifted os started H enc)
theorem proved : Rows.VmoEndsSaid := over
#print axioms proved
end Go.Proofs.Ytlcbfahjejgjlaa.vmoEnds
