/- Operations of a drawn region, in any order that may be: some done ahead of their turn, some as late as may be. -/
import Derived.Test.YtcdkbkgpgemfgaaGreatDoorKk
set_option maxRecDepth 100000
namespace Go.Jac
open Go

theorem env_put (ρ : Env) (d : Option Nat) (s : SV) (i : Nat) : ρ.put d s i = if d = some i then s else ρ i := by
  cases d with
  | none => simp [Env.put]
  | some d =>
    by_cases e : i = d
    · subst e; simp [Env.put, Env.upd_same]
    · rw [if_neg (by simp; exact fun h => e h.symm)]; exact Env.upd_ne _ _ e
theorem getE_put (E : XE) (d : Option Nat) (y : X) (i : Nat) : getE (putX E d y) i = if d = some i then y else getE E i := by
  cases d with
  | none => simp [putX]
  | some d =>
    show getE ((d, y) :: E) i = _
    rw [getE_cons]
    by_cases e : i = d
    · subst e; simp
    · rw [if_neg e, if_neg (by simp; exact fun h => e h.symm)]
theorem getE_bas {md : List Nat} : ∀ (E : XE) (i : Nat), getE (baseE md E) i = if hasN md i = true then .un else getE E i
  | [], i => by
    show X.un = _
    split <;> rfl
  | (j, x) :: r, i => by
    unfold baseE
    cases hj : hasN md j with
    | true =>
      rw [cond_true, getE_bas r i, getE_cons]
      by_cases e : i = j
      · subst e; rw [hj]; simp
      · rw [if_neg e]
    | false =>
      rw [cond_false, getE_cons, getE_cons, getE_bas r i]
      by_cases e : i = j
      · subst e; rw [hj]; simp
      · rw [if_neg e, if_neg e]
theorem getE_pick (E : XE) : ∀ (l : List Nat) (i : Nat), getE (pickEs E l) i = if i ∈ l then getE E i else .un
  | [], i => by simp [pickEs, getE]
  | j :: r, i => by
    unfold pickEs
    rw [getE_cons, getE_pick E r i]
    by_cases e : i = j
    · subst e; simp
    · simp [e]
theorem dstIn_iff {l : List Nat} {y : Nat × Oper} : dstIn l y = true ↔ ∃ d, y.2.dst = some d ∧ d ∈ l := by
  unfold dstIn
  split
  · rename_i h; simp [h]
  · rename_i d h; rw [hasN_iff]; simp [h]
theorem frontB_out {B : List Nat} {p : Nat} : ∀ {U : List (Nat × Oper)}, frontB B p U = true → ∀ x ∈ U, x.1 ≠ p → dep B x.1 p = false
  | [], _, x, hx, _ => by cases hx
  | y :: r, h, x, hx, hp => by
    unfold frontB at h
    rcases List.mem_cons.1 hx with rfl | hx
    · have : Nat.beq x.1 p = false := by rw [← Bool.not_eq_true]; simpa using hp
      rw [this, cond_false] at h
      cases hd : dep B x.1 p with
      | false => rfl
      | true => rw [hd] at h; cases h
    · refine frontB_out (U := r) ?_ x hx hp
      cases hb : Nat.beq y.1 p with
      | true => rw [hb] at h; exact h
      | false =>
        rw [hb, cond_false] at h
        cases hd : dep B y.1 p with
        | true => rw [hd] at h; cases h
        | false => rw [hd] at h; exact h
theorem fronts_out {B : List Nat} {U : List (Nat × Oper)} {x : Nat × Oper} : ∀ {l : List (Nat × Oper)}, x ∈ fronts B U l → x ∈ l ∧ frontB B x.1 U = true
  | [], h => by cases h
  | y :: r, h => by
    unfold fronts at h
    cases hf : frontB B y.1 U with
    | true =>
      rw [hf] at h
      rcases List.mem_cons.1 h with rfl | h
      · exact ⟨by simp, hf⟩
      · exact ⟨List.mem_cons_of_mem _ (fronts_out h).1, (fronts_out h).2⟩
    | false => rw [hf] at h; exact ⟨List.mem_cons_of_mem _ (fronts_out h).1, (fronts_out h).2⟩
theorem nonA_mem {x : Nat × Oper} : ∀ {U : List (Nat × Oper)}, x ∈ nonA U ↔ x ∈ U ∧ isA x = false
  | [] => by simp [nonA]
  | y :: r => by
    have ih := nonA_mem (x := x) (U := r)
    unfold nonA
    cases h : isA y with
    | true =>
      rw [cond_true, ih]
      constructor
      · exact fun ⟨a, b⟩ => ⟨List.mem_cons_of_mem _ a, b⟩
      · rintro ⟨a, b⟩
        rcases List.mem_cons.1 a with rfl | a
        · rw [h] at b; cases b
        · exact ⟨a, b⟩
    | false =>
      rw [cond_false, List.mem_cons, ih]
      constructor
      · rintro (rfl | ⟨a, b⟩)
        · exact ⟨by simp, h⟩
        · exact ⟨List.mem_cons_of_mem _ a, b⟩
      · rintro ⟨a, b⟩
        rcases List.mem_cons.1 a with rfl | a
        · exact .inl rfl
        · exact .inr ⟨a, b⟩
theorem onlyA_mem {x : Nat × Oper} : ∀ {U : List (Nat × Oper)}, x ∈ onlyA U ↔ x ∈ U ∧ isA x = true
  | [] => by simp [onlyA]
  | y :: r => by
    have ih := onlyA_mem (x := x) (U := r)
    unfold onlyA
    cases h : isA y with
    | false =>
      rw [cond_false, ih]
      constructor
      · exact fun ⟨a, b⟩ => ⟨List.mem_cons_of_mem _ a, b⟩
      · rintro ⟨a, b⟩
        rcases List.mem_cons.1 a with rfl | a
        · rw [h] at b; cases b
        · exact ⟨a, b⟩
    | true =>
      rw [cond_true, List.mem_cons, ih]
      constructor
      · rintro (rfl | ⟨a, b⟩)
        · exact ⟨by simp, h⟩
        · exact ⟨List.mem_cons_of_mem _ a, b⟩
      · rintro ⟨a, b⟩
        rcases List.mem_cons.1 a with rfl | a
        · exact .inl rfl
        · exact .inr ⟨a, b⟩
theorem firstD_out {B : List Nat} {x a : Nat × Oper} : ∀ {l : List (Nat × Oper)}, firstD B x l = some a → a ∈ l ∧ dep B a.1 x.1 = true ∧ a.1 ≠ x.1
  | [], h => by cases h
  | y :: r, h => by
    unfold firstD at h
    have rest : firstD B x r = some a → a ∈ y :: r ∧ dep B a.1 x.1 = true ∧ a.1 ≠ x.1 := fun h => ⟨List.mem_cons_of_mem _ (firstD_out h).1, (firstD_out h).2⟩
    cases hd : dep B y.1 x.1 with
    | false => rw [hd] at h; exact rest h
    | true =>
      rw [hd, cond_true] at h
      cases hb : Nat.beq y.1 x.1 with
      | true => rw [hb] at h; exact rest h
      | false => rw [hb] at h; cases h; exact ⟨by simp, hd, Nat.ne_of_beq_eq_false hb⟩
theorem firstE_out {B : List Nat} {al : List (Nat × Oper)} {x : Nat × Oper} : ∀ {l : List (Nat × Oper)}, firstE B al l = some x → x ∈ l ∧ envOp x.2 = true
  | [], h => by cases h
  | y :: r, h => by
    unfold firstE at h
    have rest : firstE B al r = some x → x ∈ y :: r ∧ envOp x.2 = true := fun h => ⟨List.mem_cons_of_mem _ (firstE_out h).1, (firstE_out h).2⟩
    cases he : envOp y.2 with
    | false => rw [he] at h; exact rest h
    | true =>
      rw [he, cond_true] at h
      split at h
      · cases h; exact ⟨by simp, he⟩
      · exact rest h
theorem anyNeed_out {B : List Nat} {M : Nat} {s : List Oper} {m : Nat} : ∀ {l : List (Nat × Oper)}, ∀ x ∈ l, needI B M x.1 s m = true → anyNeed B M s m l = true
  | [], x, h, _ => by cases h
  | y :: r, x, h, hn => by
    unfold anyNeed
    rcases List.mem_cons.1 h with rfl | h
    · rw [hn]; rfl
    · rw [anyNeed_out x h hn]; cases needI B M y.1 s m <;> rfl
theorem noDst_out {d p : Nat} : ∀ {U : List (Nat × Oper)}, noDst d p U = true → ∀ y ∈ U, y.1 ≠ p → y.2.dst ≠ some d
  | [], _, y, h, _ => by cases h
  | z :: r, h, y, hy, hp => by
    unfold noDst at h
    rcases List.mem_cons.1 hy with rfl | hy
    · have : Nat.beq y.1 p = false := by rw [← Bool.not_eq_true]; simpa using hp
      rw [this, cond_false] at h
      intro e
      rw [dstIn_iff.2 ⟨d, e, by simp⟩] at h
      cases h
    · refine noDst_out (U := r) ?_ y hy hp
      cases hb : Nat.beq z.1 p with
      | true => rw [hb] at h; exact h
      | false =>
        rw [hb, cond_false] at h
        cases hd : dstIn [d] z with
        | true => rw [hd] at h; cases h
        | false => rw [hd] at h; exact h
theorem clearG_out {x : Nat × Oper} : ∀ {G : XG}, clearG x G = true → ∀ g ∈ G, dstIn (readsOf g.1.2) x = false ∧ ∀ d, x.2.dst = some d → g.1.2.dst ≠ some d
  | [], _, g, h => by cases h
  | y :: r, h, g, hg => by
    unfold clearG at h
    cases h1 : dstIn (readsOf y.1.2) x with
    | true => rw [h1] at h; cases h
    | false =>
      rw [h1, cond_false] at h
      cases h2 : dstIn y.1.2.dst.toList x with
      | true => rw [h2] at h; cases h
      | false =>
        rw [h2, cond_false] at h
        rcases List.mem_cons.1 hg with rfl | hg
        · refine ⟨h1, fun d hd e => ?_⟩
          rw [dstIn_iff.2 ⟨d, hd, by rw [e]; simp⟩] at h2
          cases h2
        · exact clearG_out (G := r) h g hg
theorem hangG_out {B : List Nat} {x : Nat × Oper} : ∀ {G : XG}, hangG B x G = true → ∀ g ∈ G, dstIn (readsOf x.2) g.1 = true → dep B g.1.1 x.1 = true
  | [], _, g, h, _ => by cases h
  | y :: r, h, g, hg, hd => by
    unfold hangG at h
    rcases List.mem_cons.1 hg with rfl | hg
    · rw [hd, cond_true] at h
      cases h2 : dep B g.1.1 x.1 with
      | true => rfl
      | false => rw [h2] at h; cases h
    · refine hangG_out (G := r) ?_ g hg hd
      cases h1 : dstIn (readsOf x.2) y.1 with
      | false => rw [h1] at h; exact h
      | true =>
        rw [h1, cond_true] at h
        cases h2 : dep B y.1.1 x.1 with
        | false => rw [h2] at h; cases h
        | true => rw [h2] at h; exact h
theorem leftG_mem {B : List Nat} {x : Nat × Oper} {g : (Nat × Oper) × XE} : ∀ {G : XG}, g ∈ leftG B x G ↔ g ∈ G ∧ dep B g.1.1 x.1 = false
  | [] => by simp [leftG]
  | y :: r => by
    have ih := leftG_mem (B := B) (x := x) (g := g) (G := r)
    unfold leftG
    cases h : dep B y.1.1 x.1 with
    | true =>
      rw [cond_true, ih]
      constructor
      · exact fun ⟨a, b⟩ => ⟨List.mem_cons_of_mem _ a, b⟩
      · rintro ⟨a, b⟩
        rcases List.mem_cons.1 a with rfl | a
        · rw [h] at b; cases b
        · exact ⟨a, b⟩
    | false =>
      rw [cond_false, List.mem_cons, ih]
      constructor
      · rintro (rfl | ⟨a, b⟩)
        · exact ⟨by simp, h⟩
        · exact ⟨List.mem_cons_of_mem _ a, b⟩
      · rintro ⟨a, b⟩
        rcases List.mem_cons.1 a with rfl | a
        · exact .inl rfl
        · exact .inr ⟨a, b⟩
theorem opsG_mem {g : (Nat × Oper) × XE} : ∀ {G : XG}, g ∈ G → g.1 ∈ opsG G
  | y :: r, h => by
    unfold opsG
    rcases List.mem_cons.1 h with rfl | h
    · simp
    · exact List.mem_cons_of_mem _ (opsG_mem h)
theorem opsG_out {x : Nat × Oper} : ∀ {G : XG}, x ∈ opsG G → ∃ g ∈ G, g.1 = x
  | y :: r, h => by
    unfold opsG at h
    rcases List.mem_cons.1 h with rfl | h
    · exact ⟨y, by simp, rfl⟩
    · obtain ⟨g, h1, h2⟩ := opsG_out h
      exact ⟨g, List.mem_cons_of_mem _ h1, h2⟩
theorem dstsA_mem {d : Nat} : ∀ {l : List (Nat × Oper)}, d ∈ dstsA l ↔ ∃ x ∈ l, x.2.dst = some d
  | [] => by simp [dstsA]
  | y :: r => by
    have ih := dstsA_mem (d := d) (l := r)
    unfold dstsA
    rw [List.mem_append, ih]
    constructor
    · rintro (h | ⟨x, h1, h2⟩)
      · exact ⟨y, by simp, by simpa using h⟩
      · exact ⟨x, List.mem_cons_of_mem _ h1, h2⟩
    · rintro ⟨x, h1, h2⟩
      rcases List.mem_cons.1 h1 with rfl | h1
      · exact .inl (by simp [h2])
      · exact .inr ⟨x, h1, h2⟩
theorem allW_of {w : World} : ∀ {l : List WP}, (∀ A ∈ l, A w) → allW l w
  | [], _ => trivial
  | [A], h => h A (by simp)
  | A :: B :: r, h => ⟨h A (by simp), allW_of (l := B :: r) fun C hC => h C (List.mem_cons_of_mem _ hC)⟩
theorem isA_of {x : Nat × Oper} (h : isA x = true) : x.2.guard = none ∧ ∃ t, x.2.op = .alloc t := by
  unfold isA at h
  split at h
  · rename_i hg
    split at h
    · rename_i t ht; exact ⟨hg, t, ht⟩
    · cases h
  · cases h

section
variable {AT : Nat → Nat → Value} {P : Program} {GL : Gv} {w0 : World} {F : List HP} {cl : Bool → Nat → List X → XS → R (X × XS)}
theorem GLok.app (h : GLok AT GL w0 F) (L : List HP) : GLok AT GL w0 (L ++ F) := ⟨fun w L' d => h.gl w (L' ++ L) (by rw [List.append_assoc]; exact d), h.bin, h.conv, h.mm⟩
theorem RelX.sb {σ : Sg} {x : X} {s : SV} {b : Bool} (h : RelX AT σ x s) (hv : s.v = .bool b) : RelX AT σ x (sb b) := by
  cases x with
  | un => exact trivial
  | no =>
    have h : s = su := h
    rw [h] at hv
    exact absurd hv (by simp [su, undef])
  | _ =>
    obtain ⟨v, h1, h2, h3⟩ := h
    exact ⟨v, h1, by rw [sb_v, ← hv, h2], good_sb b⟩
/-- What does not hang on memory. -/
theorem envOp_any {o : Oper} {E : XE} {S S' : XS} {y : X} (he : envOp o = true) (h : xOp P GL cl o E S = .ok (y, S')) : S' = S ∧ ∀ S1, xOp P GL cl o E S1 = .ok (y, S1) := by
  obtain ⟨dst, op, ty, pos, after, guard⟩ := o
  cases guard with
  | some g => cases he
  | none =>
    cases op <;> first
      | exact absurd (show false = true from he) (by simp)
      | (obtain ⟨z, h1, h2⟩ := R.bind_ok (show R.bind (xRead P GL _ E S) (fun x => .ok (x, S)) = _ from h)
         cases h2
         refine ⟨rfl, fun S1 => ?_⟩
         show R.bind (xRead P GL _ E S1) (fun x => .ok (x, S1)) = _
         rw [show xRead P GL _ E S1 = .ok y from h1]
         rfl)
      | (cases h; exact ⟨rfl, fun _ => rfl⟩)
theorem op1_ok (hAT : ∀ i c, (AT i c).oneCell' = true) (hG : GLok AT GL w0 F) (hH : HOk AT P w0 F cl) {all : List Oper} {x : Oper} {E E1 : XE} {ρ : Env} {σ : Sg} {S S1 : XS} {w : World} (he : EnvR AT σ E ρ) (r : Rep AT P w0 F σ S w) (h : xOps P GL cl all [x] E S = .ok (E1, S1)) {K : Env → WP}
    (k : ∀ (σ' : Sg) (ρ1 : Env) (s : SV) (w' : World) (y : X), σ.le σ' → Rep AT P w0 F σ' S1 w' → E1 = putX E x.dst y → RelX AT σ' y s → (∀ i, ρ1 i = ρ i ∨ ∃ b, (ρ i).v = .bool b ∧ ρ1 i = sb b) → K (ρ1.put x.dst s) w') : WOps P all [x] ρ K w := by
  have step : ∀ ρ1 : Env, EnvR AT σ E ρ1 → (∀ i, ρ1 i = ρ i ∨ ∃ b, (ρ i).v = .bool b ∧ ρ1 i = sb b) → ((xOp P GL cl x E S).bind fun p => force2 p.1 fun y => xOps P GL cl all [] (putX E x.dst y) p.2) = .ok (E1, S1) → OpV P x ρ1 (fun v => WOps P all [] (ρ1.put x.dst v) K) w := by
    intro ρ1 he1 hρ h
    obtain ⟨⟨y, S2⟩, h1, h2⟩ := R.bind_ok h
    rw [force2_eq] at h2
    cases h2
    exact op_ok hAT hG hH he1 r h1 fun σ' s w' hl hr hx => k σ' ρ1 s w' y hl hr rfl hx hρ
  have skip : ∀ ρ1 : Env, (∀ i, ρ1 i = ρ i ∨ ∃ b, (ρ i).v = .bool b ∧ ρ1 i = sb b) → xOps P GL cl all [] (putX E x.dst .no) S = .ok (E1, S1) → WOps P all [] (ρ1.put x.dst su) K w := by
    intro ρ1 hρ h
    cases h
    exact k σ ρ1 su w .no (Sg.le.refl σ) r rfl rfl hρ
  have upd : ∀ g b, (ρ g).v = .bool b → ∀ i, (ρ.upd g (sb b)) i = ρ i ∨ ∃ b', (ρ i).v = .bool b' ∧ (ρ.upd g (sb b)) i = sb b' := by
    intro g b hb i
    by_cases e : i = g
    · subst e; exact .inr ⟨b, hb, Env.upd_same _ _ _⟩
    · exact .inl (Env.upd_ne _ _ e)
  unfold xOps at h
  unfold WOps
  split at h
  · rename_i hg
    rw [hg]
    exact step ρ he (fun _ => .inl rfl) h
  · rename_i j b hg
    rw [hg]
    dsimp only
    split at h
    · rename_i g hd
      rw [hd]
      dsimp only
      split at h
      · rename_i c hc
        have hrel := he g
        rw [hc] at hrel
        obtain ⟨v, v1, v2, v3⟩ := hrel
        cases den_bool.1 v1
        refine grd_w v2 v3 (fun e => ?_) (fun e => ?_)
        · subst e
          simp only [beq_self_eq_true, cond_true] at h
          exact step _ (he.know hc) (upd g _ v2) h
        · subst e
          have : ((!b) == b) = false := by cases b <;> rfl
          rw [this] at h
          exact skip _ (upd g _ v2) h
      · rename_i hc
        have hrel := he g
        rw [hc] at hrel
        have hrel : ρ g = su := hrel
        rw [hrel]
        exact grd_su (skip _ (fun _ => .inl rfl) h)
      · cases h
    · cases h
end
end Go.Jac
