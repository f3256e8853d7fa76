/- Any pairs lie within any others, and what was made, just if the document says so; for all lists of pairs. -/
import Derived.Test.YtcdkbkgpgemfgaaGreatDoorCards
import Derived.Test.YtcdkbkgpgemfgaaGreatDoorTie
import Derived.Test.YtcdkbkgpgemfgaaGreatDoorLWithC
import Derived.WalkKit
import Derived.ProofKit
import Derived.OpenShut
import Derived.Deep.DeepHandedRow
import Derived.Lib.LaidTab
namespace Go.Proofs.YtcdkbkgpgemfgaaGreatDoor.auditWithin
open Go Go.Jac Go.ChangeShapes Go.WideShapes Go.ChangeAt Go.RowKit
set_option maxRecDepth 100000

theorem own : ownKnob Tryz.prog.godebug = none := by kernel_rfl
theorem params_ok : ∀ t ∈ Tryz.f4.params.toList, Tryz.prog.readableRec t = true ∧ t < Tryz.prog.types.size := by
  intro t ht
  have ht : t ∈ [44, 44, 30] := ht
  simp only [List.mem_cons, List.not_mem_nil, or_false] at ht
  rcases ht with rfl | rfl | rfl
  · exact ⟨by kernel_rfl, of_decide_eq_true (by kernel_rfl)⟩
  · exact ⟨by kernel_rfl, of_decide_eq_true (by kernel_rfl)⟩
  · exact ⟨by kernel_rfl, of_decide_eq_true (by kernel_rfl)⟩
/-- No function of the program starts another goroutine, so no call does. -/
theorem no_goes (P : Program) (h : P.funcs.any Func.goes = false) (n : String) : P.goesAt .entering n = false := by
  have h1 : ∀ g : Nat, (P.funcs[g]?).any Func.goes = false := fun g => by
    cases hg : P.funcs[g]? with
    | none => rfl
    | some fn =>
      obtain ⟨hi, e⟩ := Array.getElem?_eq_some_iff.1 hg
      rw [← Bool.not_eq_true]
      intro hf
      rw [Array.any_eq_true.2 ⟨g, hi, by rw [e]; exact hf⟩] at h
      cases h
  unfold Program.goesAt Program.goesFrom
  cases P.funcNamed n with
  | none => rfl
  | some f =>
    show (P.goes f || false) = false
    unfold Program.goes
    simp [h, h1]
theorem contract (H : Type) (enc : TypeId × Value → H) (W : World) (base : Nat) (args : Array Value) (ds gs : List (DataW H)) (before : List MemPlace)
    (hval : ∀ (j : Nat) t v, Tryz.f4.params[j]? = some t → args[j]? = some v → Value.okWide Tryz.prog W .any base t v)
    (hW : DataW.Whole enc Tryz.prog Tryz.f4.params.toList Rows.auditWithinSpec.vars false W args.toList ds gs before) (hL : laidMetH Tryz.prog Rows.auditWithinRow.laid W) :
    Calls Tryz.prog 4 args W fun e W' => ∃ v, e = .returned v ∧ Rows.auditWithinSpec.post enc Tryz.prog Tryz.f4 false true false false W args v W' := by
  have hW' := hW
  obtain ⟨p, q, hA0, hV, rfl, hfz, hnd⟩ := hW
  have hA : DataW.TrodAll enc Tryz.prog W 0 (fun _ => true) true Tryz.f4.params.toList args.toList ds p := hA0
  rw [Tryz.params4] at hA hval
  obtain ⟨v0, vs0, d0, ds0, p0, q0, hargs, rfl, rfl, h0, r0⟩ := trodAll_cons hA
  obtain ⟨v1, vs1, d1, ds1, p1, q1, rfl, rfl, rfl, h1, r1⟩ := trodAll_cons r0
  obtain ⟨v2, vs2, d2, ds2, p2, q2, rfl, rfl, rfl, h2, r2⟩ := trodAll_cons r1
  obtain ⟨hnil, rfl, rfl⟩ := trodAll_nil r2
  obtain rfl : args = #[v0, v1, v2] := Array.toList_inj.1 (by rw [hargs, hnil])
  obtain ⟨rfl, rfl⟩ := trodVars_none hV
  obtain ⟨sa0, sl0, sc0, rfl⟩ := okWide_slice Tryz.underlying44 (hval 0 44 v0 rfl rfl)
  have y0 : Rd Tryz.prog W 44 [.slice sa0 sl0 sc0] := Rd.of h0
  obtain ⟨n0, o0⟩ := osl_of (es := 2) Tryz.underlying44 (by kernel_rfl) y0
  obtain ⟨sa1, sl1, sc1, rfl⟩ := okWide_slice Tryz.underlying44 (hval 1 44 v1 rfl rfl)
  have y1 : Rd Tryz.prog W 44 [.slice sa1 sl1 sc1] := Rd.of h1
  obtain ⟨n1, o1⟩ := osl_of (es := 2) Tryz.underlying44 (by kernel_rfl) y1
  obtain ⟨sa2, sl2, sc2, rfl⟩ := okWide_slice Tryz.underlying30 (hval 2 30 v2 rfl rfl)
  have y2 : Rd Tryz.prog W 30 [.slice sa2 sl2 sc2] := Rd.of h2
  obtain ⟨n2, o2⟩ := osl_of (es := 1) Tryz.underlying30 (by kernel_rfl) y2
  refine (law_walk (P := Tryz.prog) fun K k => within_of y0 y1 y2 (nmd_of hL) (List.mem_singleton.2 rfl) (D.start W) k).mono fun e W' ⟨he, hB⟩ => ⟨_, he, ?_⟩
  exact law_post (tb := 4) (by kernel_rfl) (params_ok) rfl rfl Tryz.underlying4 hW' rfl hB
/-- The table's cells, as the initialiser lays them. -/
def nmsC : Array Value := (nmsL.map fun s => Value.string ⟨s.toArray⟩).toArray
/-- A world in which the table holds its names. -/
noncomputable def laidWorld (os : Os) : World :=
  { World.holding Tryz.prog os ⟨#[], #[], []⟩ with heap := (World.holding Tryz.prog os ⟨#[], #[], []⟩).heap.modify 0 fun
      | .cells _ t frozen => .cells nmsC t frozen
      | o => o }
theorem laid_met (os : Os) : laidMet Tryz.prog Rows.auditWithinRow.laid ((laidWorld os).forCall (fun _ _ => 0) ⟨#[], #[.slice none 0 0, .slice none 0 0, .slice none 0 0], []⟩).memory :=
  laidMet_of_run' 8 (by kernel_rfl) (by kernel_rfl)
theorem reads (os : Os) {H : Type} (enc : TypeId × Value → H) : ∃ places, DataW.whole enc Tryz.prog ((laidWorld os).forCall (fun _ _ => 0) ⟨#[], #[.slice none 0 0, .slice none 0 0, .slice none 0 0], []⟩).memory Tryz.f4.params.toList Rows.auditWithinSpec.vars false #[Value.slice none 0 0, .slice none 0 0, .slice none 0 0].toList 8 = some ([.nil, .nil, .nil], [], places) :=
  ⟨[], by kernel_rfl⟩
theorem lifted (os : Os) (started : os.Started) (H : Type) (enc : TypeId × Value → H) (F : Stop.Interp) :
    ReturnsInHanded {} Tryz.checked os 4 .any ((OpenSpec.ofChange Rows.auditWithinSpec).preRow enc Tryz.prog Tryz.f4 Rows.auditWithinRow.domain false Rows.auditWithinRow.laid) (((OpenSpec.ofChange Rows.auditWithinSpec).at F).post enc Tryz.prog Tryz.f4 false true false false) := by
  obtain ⟨places, hx⟩ := reads os enc
  refine returnsInHanded_of_row (C := Tryz.checked) (s := OpenSpec.ofChange Rows.auditWithinSpec) own started (by kernel_rfl) Tryz.func4
    (witness_row_at (enc := enc) (C := Tryz.checked) false (laidWorld os) #[.slice none 0 0, .slice none 0 0, .slice none 0 0] rfl (by as_aux_lemma => kernel_rfl) (by as_aux_lemma => kernel_rfl) (by as_aux_lemma => kernel_rfl)
      (OpenSpec.preRow_of_cond 8 hx (by kernel_rfl) (fun k hk => by cases hk) (by kernel_rfl) (laid_met os))) ?_
  intro W base args ds gs before hval hW _ _ _ hL _ _
  exact contract H enc W base args ds gs before hval hW hL
theorem and_t {a b : Bool} (h : a = true) (k : b = true) : (a && b) = true := by rw [h, k]; rfl
set_option maxHeartbeats 0 in
theorem facts : joinedFacts Tryz.prog 4 Tryz.f4 (OpenSpec.ofChange Rows.auditWithinSpec).bare Rows.auditWithinRow = true := by
  unfold joinedFacts
  repeat' with_reducible refine and_t ?_ ?_
  all_goals as_aux_lemma => kernel_rfl
theorem inst : Tryz.f4.isInstance Tryz.prog Rows.auditWithinRow.origin Rows.auditWithinRow.targs := of_decide_eq_true (by kernel_rfl)
theorem wrap : Tryz.f4.isWrapper Tryz.prog Rows.auditWithinRow.wrapper Rows.auditWithinRow.mainSum := by unfold Func.isWrapper; first | (rw [if_pos (by decide +kernel)]; kernel_rfl) | (rw [if_neg (by decide +kernel)]; exact ⟨rfl, rfl⟩)
theorem said : Rows.AuditWithinSaid :=
  OpenClaim.holds_of_cond 4 Tryz.f4 rfl rfl rfl rfl rfl rfl rfl ⟨rfl, rfl, rfl, rfl, rfl⟩ rfl rfl rfl rfl rfl (by as_aux_lemma => kernel_rfl) Tryz.func4 facts inst wrap
    (fun os started H enc _ F => by rw [OpenClaim.pre_eq_preRow]; exact lifted os started H enc F)
/-- No parameter wants a stand-in; the program's own looks are off. -/
theorem plain (f : FuncId) (fn : Func) (hf : Tryz.pinned.checked.prog.funcNamed "jacinth/jacinthlaw21.AuditWithin" = some f) (hfn : Tryz.pinned.checked.prog.funcs[f]? = some fn) :
    false = Tryz.pinned.checked.prog.looks [] ∧ ∀ (j : Nat) t, fn.params[j]? = some t → Tryz.pinned.checked.prog.wantsStandIn t = false := by
  obtain rfl : f = 4 := Option.some.inj ((show Tryz.prog.funcNamed "jacinth/jacinthlaw21.AuditWithin" = some 4 by kernel_rfl).symm.trans hf) |>.symm
  obtain rfl : fn = Tryz.f4 := (Option.some.inj (Tryz.func4.symm.trans hfn)).symm
  refine ⟨by kernel_rfl, fun j t ht => ?_⟩
  rw [Tryz.params4] at ht
  have hm := Array.mem_of_getElem? ht
  have h44 : Tryz.prog.wantsStandIn 44 = false := by kernel_rfl
  have h30 : Tryz.prog.wantsStandIn 30 = false := by kernel_rfl
  simp only [List.mem_toArray, List.mem_cons, List.not_mem_nil, or_false] at hm
  rcases hm with rfl | rfl | rfl
  · exact h44
  · exact h44
  · exact h30
theorem wft : Rows.auditWithinRow.wfByText (OpenSpec.ofChange Rows.auditWithinSpec) = true := by kernel_rfl
theorem goes : false = Rows.auditWithinRow.goesBy Tryz.pinned.checked.prog := (no_goes Tryz.pinned.checked.prog (by kernel_rfl) _).symm
theorem proved : Rows.AuditWithinCardSaid :=
  Claim7.holds_tied_plain_at .later [] _ _ _ _ said (fun _ h => by cases h) wft (fun _ h => by cases h) auditWithin_row_tie rfl ⟨rfl, rfl⟩ (by as_aux_lemma => kernel_rfl) rfl plain goes
#print axioms proved
end Go.Proofs.YtcdkbkgpgemfgaaGreatDoor.auditWithin
