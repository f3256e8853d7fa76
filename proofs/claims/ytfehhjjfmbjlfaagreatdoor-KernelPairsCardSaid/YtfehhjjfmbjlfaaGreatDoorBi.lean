/- What a code asks is enough for the machine's steps. -/
import Derived.ControlIn
import Derived.Scope
import Derived.Test.YtfehhjjfmbjlfaaGreatDoorBh
namespace Go
section
variable {F : Fence} {n : Nat} {P : Program} {b : Frame} {a : Act} {k : List Item} {cs : List Frame} {w : World} {Q : Exit → Act → World → Prop}
theorem stepR_scope {c : Code} : step P (lone (b.atR a (.code (.scope c) :: k)) cs w) = .next (lone (b.atR a (.code c :: .inScope c :: k)) cs w) :=
  step_lone_go (by simp [stepG, stepG.exec, Frame.atR])
theorem stepR_inScope {c : Code} : step P (lone (b.atR a (.inScope c :: k)) cs w) = .next (lone (b.atR a k) cs w) :=
  step_lone_go (by simp [stepG, stepG.exec, Frame.atR])
theorem wpIn_scope {c : Code} (h : c.wpIn F n P (Exit.noGoto Q) a w) : (Code.scope c).wpIn F n P Q a w := by
  intro b k cs hro hb hr
  have h0 : (lone (b.atR a (.code (.scope c) :: k)) cs w).fenced P F := fenced_calm hb hr rfl
  obtain ⟨e, a₁, w₁, hq, harr⟩ := h b (.inScope c :: k) cs hro hb hr
  cases e with
  | normal => exact ⟨.normal, a₁, w₁, hq, .head h0 stepR_scope (StepsIn.trans harr (.one (fenced_calm hb hr rfl) stepR_inScope))⟩
  | exit id =>
    have hx : exitTo id (.inScope c :: k) = exitTo id k := by simp [exitTo]
    exact ⟨.exit id, a₁, w₁, hq, fun k' hk => .head h0 stepR_scope (harr.1 k' (by rw [hx]; exact hk)),
      fun hr' hk => let ⟨k₁, h1, h2⟩ := harr.2 hr' (by rw [hx]; exact hk); ⟨k₁, h1, .head h0 stepR_scope h2⟩⟩
  | goto l => exact hq.elim
  | ret => exact ⟨_, a₁, w₁, hq, .of_steps (.one h0 stepR_scope) harr⟩
  | panic ch => exact ⟨_, a₁, w₁, hq, .of_steps (.one h0 stepR_scope) harr⟩
  | outgrown => exact ⟨_, a₁, w₁, hq, .of_steps (.one h0 stepR_scope) harr⟩
end
end Go
namespace Go.Jac
open Go

section
variable {P : Program} {n : Nat}

def okX : Exit → Prop
  | .panic _ => False
  | .outgrown => False
  | .goto _ => False
  | _ => True
def Post (n : Nat) (ρ : Env) (md : List Nat) (Q : Exit → Env → WP) : Exit → Act → World → Prop := fun e a' w' =>
  okX e ∧ ∃ ρ', Agree n a' ρ'.val ∧ Gd ρ' ∧ (∀ i, i ∉ md → ρ'.val i = ρ.val i) ∧ Q e ρ' w'

theorem least {G : Type} (p : G → Nat → Prop) (h : ∃ g m, p g m) : ∃ m, (∃ g, p g m) ∧ ∀ g k, p g k → m ≤ k := by
  obtain ⟨g, m, hg⟩ := h
  induction m using Nat.strongRecOn generalizing g with
  | _ m ih =>
    by_cases hl : ∃ g' k, p g' k ∧ k < m
    · obtain ⟨g', k, hp, hk⟩ := hl
      exact ih k hk g' hp
    · refine ⟨m, ⟨g, hg⟩, fun g' k hp => ?_⟩
      rcases Nat.lt_or_ge k m with h1 | h1
      · exact absurd ⟨g', k, hp, h1⟩ hl
      · exact h1
theorem wpIn_loop_ghost {F : Fence} {k : Nat} {c : Code} {Q : Exit → Act → World → Prop} {a : Act} {w : World} {G : Type} (I : G → Act → World → Prop) (μ : G → World → Nat) (g₀ : G) (h₀ : I g₀ a w)
    (round : ∀ g a w, I g a w → c.wpIn F k P (Exit.then (fun a' w' => ∃ g', I g' a' w' ∧ μ g' w' < μ g w) Q) a w) : (Code.loop c).wpIn F k P Q a w := by
  have hl : ∀ a w, ∃ m, (∃ g, I g a w) → ((∃ g, I g a w ∧ μ g w = m) ∧ ∀ g, I g a w → m ≤ μ g w) := by
    intro a w
    by_cases h : ∃ g, I g a w
    · obtain ⟨g, hg⟩ := h
      obtain ⟨m, h1, h2⟩ := least (fun g m => I g a w ∧ μ g w = m) ⟨g, μ g w, hg, rfl⟩
      exact ⟨m, fun _ => ⟨h1, fun g' hg' => h2 g' _ ⟨hg', rfl⟩⟩⟩
    · exact ⟨0, fun h' => absurd h' h⟩
  refine wpIn_loop (fun a w => ∃ g, I g a w) (fun a w => Classical.choose (hl a w)) ⟨g₀, h₀⟩ ?_
  intro a w hI
  obtain ⟨⟨g, hg, hm⟩, _⟩ := Classical.choose_spec (hl a w) hI
  refine wpIn_mono (round g a w hg) fun e a' w' hq => ?_
  cases e with
  | normal =>
    obtain ⟨g', hg', hlt⟩ := hq
    obtain ⟨_, h2⟩ := Classical.choose_spec (hl a' w') ⟨g', hg'⟩
    refine ⟨⟨g', hg'⟩, ?_⟩
    have := h2 g' hg'
    omega
  | _ => exact hq

theorem CndW_cases {x : SV} (hg : x.Good) {t e : WP} {w : World} (h : CndW x t e w) : ∃ c, x.v = .bool c ∧ (cond c t e) w := by
  obtain ⟨k, v⟩ := x
  cases k with
  | tt => exact ⟨true, hg, h⟩
  | ff => exact ⟨false, hg, h⟩
  | un =>
    obtain ⟨c, hc, h1, h2⟩ := h
    exact absurd hc (hg c)
  | unk =>
    obtain ⟨c, hc, h1, h2⟩ := h
    cases c
    · exact ⟨false, hc, h2 rfl⟩
    · exact ⟨true, hc, h1 rfl⟩

theorem puts_agree (hn : n ≤ MK) : ∀ (ps : List Nat) (args : List Value) (t : Array Value) (d : List Deferred) (ρ : Env), Agree n { tmps := t, defers := d } ρ.val → tmpsOk n ps = true →
    Agree n { tmps := (ps.zip args).foldl (fun tmps (p : Nat × Value) => tmps.setIfInBounds p.1 p.2) t, defers := d } (ρ.puts ps args).val
  | [], args, t, d, ρ, h, _ => by cases args <;> exact h
  | i :: r, [], t, d, ρ, h, _ => h
  | i :: r, v :: vs, t, d, ρ, h, hp => by
    have h1 : Nat.blt i n = true := allB_iff.1 hp i (by simp)
    have h2 : tmpsOk n r = true := allB_iff.2 fun x hx => allB_iff.1 hp x (by simp [hx])
    exact puts_agree hn r vs _ d _ (by rw [Env.val_upd]; exact h.put hn (d := some i) v h1) h2

theorem unpX_out {B : Env → WP} {w : World} : ∀ (ps : List Nat) (args : List Value) (ρ : Env), unpX ps args ρ B w → args.length = ps.length ∧ B (ρ.puts ps args) w
  | [], [], ρ, h => ⟨rfl, h⟩
  | [], _ :: _, ρ, h => h.elim
  | i :: r, [], ρ, h => h.elim
  | i :: r, v :: vs, ρ, h => by
    obtain ⟨h1, h2⟩ := unpX_out r vs (ρ.upd i (dy v)) h
    exact ⟨by simp [h1], h2⟩
theorem puts_good : ∀ (ps : List Nat) (args : List Value) (ρ : Env), Gd ρ → Gd (ρ.puts ps args)
  | [], args, ρ, h => by cases args <;> exact h
  | i :: r, [], ρ, h => h
  | i :: r, v :: vs, ρ, h => puts_good r vs _ (h.upd i (good_dy v))
theorem puts_mk (hn : n ≤ MK) {v : SV} : ∀ (ps : List Nat) (args : List Value) (ρ : Env), tmpsOk n ps = true → ρ MK = v → ρ.puts ps args MK = v
  | [], args, ρ, _, h => by cases args <;> exact h
  | i :: r, [], ρ, _, h => h
  | i :: r, x :: vs, ρ, hp, h => by
    have h1 : i + 1 ≤ n := by simpa [Nat.blt] using allB_iff.1 hp i (by simp)
    have h2 : tmpsOk n r = true := allB_iff.2 fun x hx => allB_iff.1 hp x (by simp [hx])
    exact puts_mk hn r vs _ h2 (by rw [Env.upd_ne _ _ (by omega)]; exact h)

theorem exSel_out {Q : Nat → WP} {i : Nat} {w : World} : ∀ (l : List Nat), exSel l Q i w → Q i w
  | [], h => h.elim
  | x :: r, h => by
    rw [exSel] at h
    cases hb : Nat.beq i x with
    | true => rw [hb] at h; have := Nat.eq_of_beq_eq_true hb; subst this; exact h
    | false => rw [hb] at h; exact exSel_out r h
theorem jump_out {F : Fence} {k : Nat} {j : Option Code} {N R : WP} {X : Nat → WP} {w : World} {a : Act} {Q : Exit → Act → World → Prop} (h : JumpC j N R X w) (hN : N w → Q .normal a w) (hR : R w → Q .ret a w) (hX : ∀ i, X i w → Q (.exit i) a w) :
    (j = none → Q .normal a w) ∧ (∀ c, j = some c → c.wpIn F k P Q a w) := by
  cases j with
  | none => exact ⟨fun _ => hN h, (fun c hc => by cases hc)⟩
  | some c =>
    refine ⟨(fun hc => by cases hc), fun c' hc => ?_⟩
    cases hc
    cases c <;> (try exact h.elim)
    · exact wpIn_exit (hX _ h)
    · exact wpIn_ret (hR h)

theorem marks_add (m : Value) (r : Nat) (hm : ∃ vs, m = .tuple vs) : marksOf (addMark m (.pointer (some ⟨r, 0, none⟩))) = { target := .collected r, args := #[] } :: marksOf m := by
  obtain ⟨vs, rfl⟩ := hm
  simp [addMark, marksOf]

/-- A round, out of what its code asks. -/
theorem round_of {x y : Code} {ps : Array Tmp} {ρ : Env} {a : Act} (hn : n ≤ MK) (hA : Agree n a ρ.val) (hGd : Gd ρ) (hps : tmpsOk n ps.toList = true)
    (hx : ∀ (ro : Option Nat) (A : List Nat) (ρ : Env) (Q : Exit → Env → WP) (a : Act) (w : World), Agree n a ρ.val → Gd ρ → (∃ vs, (ρ MK).v = .tuple vs) → W P n x ro A ρ Q w → x.wpIn (FR ro) 0 P (fun e a' w' => Post n ρ (mods x) (fun e ρ' w' => (∃ vs, (ρ' MK).v = .tuple vs) ∧ Q e ρ' w') e a' w') a w)
    (hy : ∀ (ro : Option Nat) (A : List Nat) (ρ : Env) (Q : Exit → Env → WP) (a : Act) (w : World), Agree n a ρ.val → Gd ρ → (∃ vs, (ρ MK).v = .tuple vs) → W P n y ro A ρ Q w → y.wpIn (FR ro) 0 P (fun e a' w' => Post n ρ (mods y) (fun e ρ' w' => (∃ vs, (ρ' MK).v = .tuple vs) ∧ Q e ρ' w') e a' w') a w)
    (r0 : Loop) (h1 : r0.tmps = a.tmps) (h2 : r0.params = ps) (h3 : r0.assign = x) (h4 : r0.body = y) :
    RoundOf P r0 (fun l args K => unpX ps.toList args (ρ.upd MK (dy (.tuple #[]))) fun ρ0 => W P n x (some l) (ue y) ρ0 (thenX (fun ρ1 => RBeg l (W P n y (some l) [] ρ1 fun e _ => match e with
          | .normal => REnd l none K
          | .ret => REnd l (some .ret) K
          | .exit i => REnd l (some (.exit i)) K
          | _ => fun _ => False)) (fun _ _ _ => False))) := by
  rintro l r args K w hl e1 e2 e3 e4 e5 hrd A rfl
  obtain ⟨hlen, hw⟩ := unpX_out ps.toList args _ hrd
  replace hlen : args.length = ps.size := by simpa using hlen
  have hget : ∀ (w : World) (r : Loop), isLp w l r → (Instr.getLoop l).run P w = .ok r w := by
    intro w r h
    unfold Instr.getLoop
    have : w.heap[l]? = some (.loop r) := h
    simp [getObj, Sem.run, this]
  have hset : ∀ (w : World) (r : Loop) (o : Obj), isLp w l r → (setObj l o).run P w = .ok () (World.put' w l o) := by
    intro w r o h
    have : w.heap[l]? = some (.loop r) := h
    simp [setObj, Sem.run, this, World.put']
  let tm := (ps.toList.zip args).foldl (fun tmps (p : Nat × Value) => tmps.setIfInBounds p.1 p.2) a.tmps
  have htm : (r.params.zip args.toArray).foldl (fun tmps (t, a) => tmps.setIfInBounds t a) r.tmps = tm := by
    rw [e2, e3, h1, h2]
    rw [← Array.foldl_toList, Array.toList_zip]
  refine ⟨r.fn, tm, x, y, ?_, rfl, ?_⟩
  · unfold Instr.yield
    have : (#[] ++ args.toArray).size = r.params.size := by rw [e3, h2]; simpa using hlen
    simp only [Sem.run_bind, hget w r hl, Result.andThen_ok, this, ne_eq, not_true_eq_false, if_false, Sem.run_pure]
    rw [e4, h3, e5, h4]
    simp only [Array.empty_append, htm]
  · refine roundIn_of_wpIn (FR_fn none _) ?_
    have hA0 : Agree n { tmps := a.tmps, defers := [] } (ρ.upd MK (dy (.tuple #[]))).val := by
      rw [Env.val_upd]
      refine ⟨hA.size, fun i hi => ?_, ?_⟩
      · rw [VEnv.upd_ne _ _ (by omega)]; exact hA.tmp i hi
      · rw [VEnv.upd_same]; rfl
    refine wpIn_mono (hx (some l) _ _ _ _ _ (puts_agree hn ps.toList args a.tmps [] _ hA0 hps) (puts_good _ _ _ (hGd.upd MK (good_dy _))) ⟨#[], by rw [puts_mk hn ps.toList args _ hps (Env.upd_same _ _ _)]; rfl⟩ hw) ?_
    rintro e a1 w1 ⟨ho, ρ1, hA1, hG1, _, hM1, hq⟩
    cases e with
    | normal =>
      obtain ⟨r1, hl1, hst, hb⟩ := hq
      refine ⟨_, ?_, wpIn_mono (hy (some l) _ _ _ _ _ hA1 hG1 hM1 hb) ?_⟩
      · unfold Instr.beginRound
        simp only [Sem.run_bind, hget _ _ hl1, Result.andThen_ok, hset _ _ _ hl1, hst, Sem.run_pure]
      · rintro e2 a2 w2 ⟨ho2, ρ2, hA2, _, _, _, hq2⟩
        have hend : ∀ j : Option Code, REnd l j K w2 → ∃ v w', (Instr.endRound l j).run P w2 = .ok v w' ∧ ∃ v', Ending.returned v = .returned v' ∧ K v' w' := by
          rintro j ⟨r2, hl2, hk⟩
          refine ⟨_, _, ?_, _, rfl, hk⟩
          unfold Instr.endRound
          simp only [Sem.run_bind, hget _ _ hl2, Result.andThen_ok, hset _ _ _ hl2, Sem.run_pure]
        cases e2 with
        | normal => exact hend none hq2
        | ret => exact hend (some .ret) hq2
        | exit i => exact hend (some (.exit i)) hq2
        | goto t => exact hq2.elim
        | panic c => exact ho2.elim
        | outgrown => exact ho2.elim
    | _ => first | exact hq.elim | exact ho.elim
end
end Go.Jac
