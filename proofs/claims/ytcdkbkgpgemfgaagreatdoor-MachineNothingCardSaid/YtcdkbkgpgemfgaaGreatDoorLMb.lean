/- MachineNothing: what a round's run tells. -/
import Derived.Test.YtcdkbkgpgemfgaaGreatDoorLMa
set_option maxRecDepth 100000
namespace Go.Proofs.YtcdkbkgpgemfgaaGreatDoor
open Go Go.Jac
theorem setC_at {S : XS} {b o : Nat} {x : X} {f : XS → Bool} (h : setC S b o x f = true) : ∃ S', ∀ g, setC S b o x g = g S' := by
  unfold setC at *
  split at h
  · exact ⟨_, fun g => rfl⟩
  · cases h
theorem mInv_ok {f : Nat → Nat → XS → XS → Bool} (h : mInv f = true) : ∃ b o S1 S, xRun pg (gvD glN (drR [] [])) intr1 3000 60 true 7 [mSetX] s0 = .ok (.ptr b o, S1) ∧ ∀ g, mInv g = g b o S1 S := by
  unfold mInv mr at h
  obtain ⟨p, S1, e1, h1⟩ := tst_ok h
  cases p with
  | ptr b o =>
    simp only at h1
    obtain ⟨S2, h2⟩ := setC_at h1
    rw [h2] at h1
    obtain ⟨S, h3⟩ := setC_at h1
    refine ⟨b, o, S1, S, e1, fun g => ?_⟩
    unfold mInv mr
    rw [e1]
    show (setC S1 1011 3 (.sym 0 0) fun S2 => setC S2 1068 2 (.sym 0 1) fun S => g b o S1 S) = _
    rw [h2, h3]
  | _ => cases h1
theorem isOut_ok {k st : Int} {x : X} (h : isOut k st x = true) : x = outX k st := by
  unfold isOut at h
  split at h
  · obtain ⟨h1, h2⟩ := cond_tf h
    obtain ⟨h2, h3⟩ := cond_tf h2
    rw [of_decide_eq_true h1, of_decide_eq_true h2, of_decide_eq_true h3]
    rfl
  · cases h
theorem out_den {AT : Nat → Nat → Value} {σ : Sg} {k st : Int} {v : Value} (h : den AT σ (outX k st) = some v) : v = .agg #[.int .i64 k, .int .i64 0, .int .i64 st, .slice none 0 0, .slice none 0 0] := by
  obtain ⟨vs, hd, rfl⟩ := den_agg.1 h
  have : vs = [.int .i64 k, .int .i64 0, .int .i64 st, .slice none 0 0, .slice none 0 0] := hd.uniq rfl
  rw [this]
theorem slLen_ok {AT : Nat → Nat → Value} {σ : Sg} {n : Nat} {x : X} {v : Value} (h : slLen n x = true) (hv : den AT σ x = some v) : ∃ q c, v = .slice q n c := by
  unfold slLen at h
  split at h
  · obtain ⟨_, g, _, rfl⟩ := den_sl.1 hv
    rw [beq_eq h]; exact ⟨_, _, rfl⟩
  · obtain ⟨g, _, _, rfl⟩ := den_so.1 hv
    rw [beq_eq h]; exact ⟨_, _, rfl⟩
  · cases h
noncomputable abbrev mrun (T : XT) (k : Nat) (args : List X) (S : XS) : R (X × XS) := xRun pg (gvD glN (drR [] T)) intr1 3000 60 true k args S
/-- What a round's run tells. -/
structure Rnd (T : XT) (b o : Nat) (S : XS) (sX nw : X) (k st : Int) (kb ko : Nat) (Sa Sb Sc Sd Se Sf Sg : XS) (ob rn : X) : Prop where
  k1 : mrun T 9 [.ptr b o] S = .ok (.ptr kb ko, Sa)
  n1 : mrun T 29 [.ptr kb ko] Sa = .ok (.sym 0 0, Sb)
  go : mrun T 10 [.ptr b o, sX] Sb = .ok (outX k st, Sc)
  st : mrun T 30 [.ptr b o] Sc = .ok (.sym 0 6, Sd)
  k2 : mrun T 9 [.ptr b o] Sd = .ok (.ptr kb ko, Se)
  obj : mrun T 14 [.ptr kb ko] Se = .ok (ob, Sf)
  ol : slLen 3 ob = true
  rnb : mrun T 31 [.ptr b o] Sf = .ok (rn, Sg)
  rl : slLen 1 rn = true
  fin : ∃ Si Sj, mrun T 9 [.ptr b o] Sg = .ok (.ptr kb ko, Si) ∧ mrun T 29 [.ptr kb ko] Si = .ok (nw, Sj) ∧
    smS (idR S.bs) [(0, 0, nw), (0, 1, .sym 0 6)] [] S.bs Sj.bs = true ∧ below S.nx (idR S.bs) = true
theorem round_ok {T : XT} {b o : Nat} {S1 S : XS} {sX nw : X} {k st : Int} (hg : ∀ g, mInv g = g b o S1 S) (h : mRound T sX nw k st = true) :
    ∃ kb ko Sa Sb Sc Sd Se Sf Sg ob rn, Rnd T b o S sX nw k st kb ko Sa Sb Sc Sd Se Sf Sg ob rn := by
  unfold mRound at h
  rw [hg] at h
  unfold mr at h
  obtain ⟨kp, Sa, e1, h⟩ := tst_ok h
  obtain ⟨hp, h⟩ := cond_tf h
  obtain ⟨kb, ko, e0⟩ := isPtr_ok hp
  rw [e0] at e1 h
  obtain ⟨n0, Sb, e2, h1⟩ := tst_ok h
  obtain ⟨hq, h2⟩ := cond_tf h1
  rw [beq0_eq hq] at e2
  obtain ⟨out, Sc, e3, h3⟩ := tst_ok h2
  obtain ⟨hq3, h4⟩ := cond_tf h3
  rw [isOut_ok hq3] at e3
  obtain ⟨n1, Sd, e4, h5⟩ := tst_ok h4
  obtain ⟨hq4, h6⟩ := cond_tf h5
  rw [beq0_eq hq4] at e4
  obtain ⟨kp2, Se, e5, h7⟩ := tst_ok h6
  obtain ⟨hq5, h8⟩ := cond_tf h7
  rw [beq0_eq hq5] at e5
  obtain ⟨ob, Sf, e6, h9⟩ := tst_ok h8
  obtain ⟨hq6, h10⟩ := cond_tf h9
  obtain ⟨rn, Sg, e7, h11⟩ := tst_ok h10
  obtain ⟨hq7, h12⟩ := cond_tf h11
  refine ⟨kb, ko, Sa, Sb, Sc, Sd, Se, Sf, Sg, ob, rn, ⟨e1, e2, e3, e4, e5, e6, hq6, e7, hq7, ?_⟩⟩
  obtain ⟨kp3, Si, e9, h15⟩ := tst_ok h12
  obtain ⟨hq9, h16⟩ := cond_tf h15
  rw [beq0_eq hq9] at e9
  obtain ⟨n2, Sj, e10, h17⟩ := tst_ok h16
  obtain ⟨hq10, h18⟩ := cond_tf h17
  rw [beq0_eq hq10] at e10
  obtain ⟨h19, h20⟩ := cond_tf h18
  exact ⟨Si, Sj, e9, e10, h19, h20⟩
end Go.Proofs.YtcdkbkgpgemfgaaGreatDoor
