/- Regions: the law of pieces that lie apart. -/
import Derived.Test.YtplllehpaimpiaaGk
set_option maxRecDepth 100000
set_option maxHeartbeats 8000000
namespace Go.Proofs.Ytplllehpaimpiaa
open Go Go.Jac
/-- One step of a script. -/
structure Op where
  kd : Int
  a : Int
  n : Int
  p : Int
  x : Pc
def oc (o : Op) : List Value := [.int .i64 o.kd, .int .i64 o.a, .int .i64 o.n, .int .i64 o.p, .int .i64 o.x.a, .int .i64 o.x.n, .int .i64 o.x.v, .int .i64 o.x.f, .int .i64 o.x.p]
theorem ops_of {w0 : World} {lv : Value} {n : Nat} (h : OldSl pg w0 43 9 lv n) : ∃ l : List Op, l.length = n ∧ (∀ x ∈ l, (I64 x.a ∧ I64 x.n ∧ I64 x.p) ∧ Pi x.x) ∧ OldL w0 9 oc lv l ∧ n ≤ maxLen := by
  refine h.list fun vs hv => ?_
  obtain ⟨x0, x1, x2, x3, x4, x5, x6, x7, x8, rfl, h0, h1, h2, h3, h4, h5, h6, h7, h8⟩ := rd43 hv
  exact ⟨⟨x0, x1, x2, x3, ⟨x4, x5, x6, x7, x8⟩⟩, rfl, ⟨I64.of_wf h1, I64.of_wf h2, I64.of_wf h3⟩, I64.of_wf h4, I64.of_wf h5, I64.of_wf h6, I64.of_wf h7, I64.of_wf h8⟩
/-- An array of sixteen numbers. -/
def arL (g : Nat → Int) : List Value := (List.range 16).map fun i => .int .i64 (g i)
def ar (b : Nat) (g : Nat → Int) : HP := cel b 41 (arL g)
def upN (g : Nat → Int) (q : Nat) (y : Int) : Nat → Int := fun i => if i = q then y else g i
theorem arL_get {g : Nat → Int} {q : Nat} (h : q < 16) : (arL g)[q]? = some (.int .i64 (g q)) := by
  unfold arL
  rw [List.getElem?_map, List.getElem?_range h]; rfl
theorem arL_set {g : Nat → Int} {q : Nat} {y : Int} : (arL g).set q (.int .i64 y) = arL (upN g q y) := by
  apply List.ext_getElem?
  intro i
  unfold arL upN
  rw [List.getElem?_set, List.getElem?_map, List.getElem?_map]
  simp only [List.length_map, List.length_range]
  by_cases h : q = i
  · subst h
    by_cases h2 : q < 16
    · simp [h2, List.getElem?_range h2]
    · simp [h2]
  · rw [if_neg h]
    by_cases h2 : i < 16
    · rw [List.getElem?_range h2]
      simp only [Option.map_some, if_neg (fun e : i = q => h e.symm)]
    · rw [List.getElem?_eq_none (by simp; omega)]; rfl
/-- Some numbers written anew, from one on. -/
def stp (lo j : Nat) (nw g : Nat → Int) : Nat → Int := fun q => if lo ≤ q ∧ q < lo + j then nw q else g q
theorem stp_0 (lo : Nat) (nw g : Nat → Int) : stp lo 0 nw g = g := by
  funext q
  unfold stp
  rw [if_neg (by omega)]
theorem stp_succ (lo j : Nat) (nw g : Nat → Int) : upN (stp lo j nw g) (lo + j) (nw (lo + j)) = stp lo (j + 1) nw g := by
  funext q
  simp only [stp, upN]
  by_cases h : q = lo + j
  · subst h
    rw [if_pos rfl, if_pos (by omega)]
  · rw [if_neg h]
    by_cases h2 : lo ≤ q ∧ q < lo + j
    · rw [if_pos h2, if_pos (by omega)]
    · rw [if_neg h2, if_neg (by omega)]
/-- What the arrays tell. -/
def Tel (S : List Pc) (V F Q : Nat → Int) : Prop := ∀ k : Nat, k < 16 → (∀ c, Has S (64 * (k : Int)) c → V k = IntKind.i64.wrap (c.1 + 1) ∧ c.1 ≠ -1 ∧ F k = c.2.2 + 64 * (k : Int) ∧ Q k = c.2.1) ∧ ((∀ c, ¬ Has S (64 * (k : Int)) c) → V k = 0)
theorem q64 (q : Nat) (h : q ≤ 1000000) : IntKind.i64.wrap ((64 * (q : Int)).tdiv 64) = (q : Int) := by
  rw [Int.mul_tdiv_cancel_left _ (by decide), w64 (by omega) (by omega)]
theorem tel_put {S : List Pc} {x : Pc} {V F Q : Nat → Int} {aq nq : Nat} (h : Rok 1024 100 S) (g : PutOk 1024 100 S x) (ht : Tel S V F Q) (ha : x.a = 64 * (aq : Int)) (hn : x.n = 64 * (nq : Int)) (hv : x.v ≠ -1) :
    Tel (insP S x) (stp aq nq (fun _ => IntKind.i64.wrap (x.v + 1)) V) (stp aq nq (fun q => x.f + 64 * ((q : Int) - aq)) F) (stp aq nq (fun _ => x.p) Q) := by
  intro k hk
  by_cases hc : aq ≤ k ∧ k < aq + nq
  · have hcov : cov x (64 * (k : Int)) := by unfold cov; omega
    have hno : ∀ c, ¬ Has S (64 * (k : Int)) c := by
      rintro c ⟨y, hy, hc2, _⟩
      have h1 := g.no y hy
      unfold ovB at h1
      have h1 := of_decide_eq_false h1
      have := (h.all y hy).a0; have := (h.all y hy).n0
      unfold cov at hc2 hcov
      omega
    simp only [stp, if_pos hc]
    refine ⟨fun c h1 => ?_, fun h1 => absurd (has_ins.2 (.inl ⟨hcov, rfl⟩)) (h1 _)⟩
    rcases has_ins.1 h1 with ⟨_, rfl⟩ | h1
    · simp only [vals]
      exact ⟨trivial, hv, by omega, trivial⟩
    · exact absurd h1 (hno c)
  · have hcov : ¬ cov x (64 * (k : Int)) := by unfold cov; omega
    simp only [stp, if_neg hc]
    obtain ⟨h1, h2⟩ := ht k hk
    refine ⟨fun c h3 => ?_, fun h3 => h2 fun c h4 => h3 c (has_ins.2 (.inr h4))⟩
    rcases has_ins.1 h3 with ⟨h4, _⟩ | h4
    · exact absurd h4 hcov
    · exact h1 c h4
theorem tel_cut {S : List Pc} {at_ m : Int} {V F Q : Nat → Int} {aq nq : Nat} (h : Rok 1024 100 S) (hm : 0 ≤ at_ ∧ 0 < m) (ht : Tel S V F Q) (ha : at_ = 64 * (aq : Int)) (hn : m = 64 * (nq : Int)) :
    Tel (S.flatMap (outP at_ m)) (stp aq nq (fun _ => 0) V) F Q := by
  intro k hk
  obtain ⟨h1, h2⟩ := ht k hk
  by_cases hc : aq ≤ k ∧ k < aq + nq
  · simp only [stp, if_pos hc]
    exact ⟨fun c h3 => absurd ⟨by omega, by omega⟩ ((has_out h hm).1 h3).2, fun _ => trivial⟩
  · simp only [stp, if_neg hc]
    exact ⟨fun c h3 => h1 c ((has_out h hm).1 h3).1, fun h3 => h2 fun c h4 => h3 c ((has_out h hm).2 ⟨h4, by omega⟩)⟩
theorem tel_prot {S P : List Pc} {at_ m p : Int} {V F Q : Nat → Int} {aq nq : Nat} (h : Rok 1024 100 S) (hm : 0 ≤ at_ ∧ 0 < m) (ht : Tel S V F Q) (ha : at_ = 64 * (aq : Int)) (hn : m = 64 * (nq : Int))
    (hP : P.Perm (S.flatMap (outP at_ m) ++ (S.flatMap (inP at_ m)).map (setp p))) : Tel P V F (stp aq nq (fun _ => p) Q) := by
  intro k hk
  obtain ⟨h1, h2⟩ := ht k hk
  have hp := fun c => has_prot (t := 64 * (k : Int)) (c := c) h hm hP
  by_cases hc : aq ≤ k ∧ k < aq + nq
  · simp only [stp, if_pos hc]
    refine ⟨fun c h3 => ?_, fun h3 => h2 fun c h4 => h3 (c.1, p, c.2.2) ((hp _).2 (.inr ⟨c, ⟨h4, by omega⟩, rfl⟩))⟩
    rcases (hp c).1 h3 with ⟨_, h4⟩ | ⟨c', ⟨h4, _⟩, rfl⟩
    · exact absurd ⟨by omega, by omega⟩ h4
    · obtain ⟨e1, e2, e3, e4⟩ := h1 c' h4
      exact ⟨e1, e2, e3, rfl⟩
  · simp only [stp, if_neg hc]
    refine ⟨fun c h3 => ?_, fun h3 => h2 fun c h4 => h3 c ((hp _).2 (.inl ⟨h4, by omega⟩))⟩
    rcases (hp c).1 h3 with ⟨h4, _⟩ | ⟨c', ⟨_, h4⟩, _⟩
    · exact h1 c h4
    · exact absurd ⟨by omega, by omega⟩ hc
theorem has_63 {size most : Int} {S : List Pc} (h : Rok size most S) (k : Nat) (c : Int × Int × Int) : Has S (64 * (k : Int) + 63) c ↔ Has S (64 * (k : Int)) c := by
  constructor
  · rintro ⟨x, hx, hc, hv⟩
    have := (h.all x hx).am; have := (h.all x hx).nm
    unfold cov at hc
    exact ⟨x, hx, ⟨by omega, by omega⟩, hv⟩
  · rintro ⟨x, hx, hc, hv⟩
    have := (h.all x hx).am; have := (h.all x hx).nm
    unfold cov at hc
    exact ⟨x, hx, ⟨by omega, by omega⟩, hv⟩
/-- How many numbers of the first pages are mapped. -/
def pgN (x : Pc) (t : Int) : Int := if x.a ≤ t ∧ t < x.a + x.n then 64 else 0
def cvN : List Pc → Int → Int
  | [], _ => 0
  | x :: r, t => pgN x t + cvN r t
def tot (S : List Pc) : Nat → Int
  | 0 => 0
  | k + 1 => tot S k + cvN S (64 * (k : Int))
theorem cvN_none : ∀ {S : List Pc} {t : Int}, (∀ x ∈ S, ¬ cov x t) → cvN S t = 0
  | [], _, _ => rfl
  | x :: r, t, h => by
    rw [cvN, cvN_none (S := r) fun y hy => h y (by simp [hy])]
    have := h x (by simp)
    unfold cov at this
    unfold pgN
    rw [if_neg this]; rfl
theorem cvN_some : ∀ {S : List Pc} {t : Int}, S.Pairwise (fun x y => x.a + x.n ≤ y.a) → (∃ x ∈ S, cov x t) → cvN S t = 64
  | [], _, _, h => by obtain ⟨x, hx, _⟩ := h; cases hx
  | x :: r, t, hp, h => by
    rw [List.pairwise_cons] at hp
    rw [cvN]
    by_cases hc : cov x t
    · have := cvN_none (S := r) (t := t) fun y hy hcy => by
        have := hp.1 y hy
        unfold cov at hc hcy
        omega
      rw [this]
      unfold pgN
      unfold cov at hc
      rw [if_pos hc]; rfl
    · obtain ⟨y, hy, hcy⟩ := h
      rcases List.mem_cons.1 hy with rfl | hy
      · exact absurd hcy hc
      · rw [cvN_some hp.2 ⟨y, hy, hcy⟩]
        unfold pgN
        unfold cov at hc
        rw [if_neg hc]; rfl
theorem tot_cons (x : Pc) (r : List Pc) : ∀ k, tot (x :: r) k = tot [x] k + tot r k
  | 0 => rfl
  | k + 1 => by
    rw [tot, tot, tot, tot_cons x r k, cvN, cvN, cvN]
    omega
theorem tot_one {x : Pc} (h : Pok 1024 x) : ∀ k : Nat, tot [x] k = min (x.a + x.n) (64 * (k : Int)) - min x.a (64 * (k : Int))
  | 0 => by
    have := h.a0; have := h.n0
    rw [tot]
    omega
  | k + 1 => by
    have := h.a0; have := h.n0; have := h.am; have := h.nm
    rw [tot, tot_one h k, cvN, cvN]
    unfold pgN
    split <;> omega
theorem tot_sum : ∀ {S : List Pc}, (∀ x ∈ S, Pok 1024 x) → tot S 16 = sumN S
  | [], _ => rfl
  | x :: r, h => by
    have h1 := h x (by simp)
    rw [tot_cons, tot_one h1, tot_sum fun y hy => h y (by simp [hy]), sumN_cons]
    have := h1.a0; have := h1.n0; have := h1.en
    omega
theorem wr0 {v : Int} (h : I64 v) (h1 : v ≠ -1) : IntKind.i64.wrap (v + 1) ≠ 0 := by
  unfold I64 at h
  rw [IntKind.wrap_i64]
  omega
section
variable {w0 w : World} {L : List HP} {K : Value → WP} {b n : Nat} {size most : Int} {sv lv v : Value} {x : Pc} {S : List Pc} {V F Q g : Nat → Int}
theorem iar_ok {q : Nat} {b : Nat} (h : q < 16) (k : K (.pointer (some ⟨b, q, none⟩)) w) : IAr 16 1 (.pointer (some ⟨b, 0, none⟩)) (.int .i64 q) K w :=
  ⟨_, _, _, rfl, rfl, by omega, by omega, by rw [add_of, Nat.zero_add, Int.toNat_natCast, Nat.mul_one]; exact k⟩
theorem ar_ld {q b : Nat} (h : q < 16) (d : D w0 L w) (i : In (ar b g) L) (k : K (.int .i64 (g q)) w) : Ld1 (.pointer (some ⟨b, q, none⟩)) K w := ld1 (In.get i d.1) (arL_get h) k
theorem ar_st {q b : Nat} {y : Int} {L' : List HP} (h : q < 16) (d : D w0 L w) (r : Rp (ar b g) (ar b (upN g q y)) L L') (k : ∀ w', D w0 L' w' → K undef w') : St 1 (.pointer (some ⟨b, q, none⟩)) (.int .i64 y) K w := by
  refine stm (t := 41) (cs := arL g) (v := .int .i64 y) d ?_ rfl (by simp [arL]; omega) (ones rfl) k
  have e : splice (arL g) q (Value.int .i64 y).cells.toList = arL (upN g q y) := by
    show splice (arL g) q [.int .i64 y] = _
    rw [spliceS, splice0, arL_set]
  rw [e]
  exact r
theorem qar {q b : Nat} {M : List HP} {B : Value → WP} (h : q < 16) (i : In (ar b g) M) (k : B (.int .i64 (g q)) w) : QE (D w0 M) (fun KK => Ld1 (.pointer (some ⟨b, q, none⟩)) fun v => KK v) B w := qe _ (fun _ d => ar_ld h d i ⟨rfl, rfl⟩) k
theorem qiar16 {q b : Nat} {I : WP} {B : Value → WP} (h : q < 16) (k : B (.pointer (some ⟨b, q, none⟩)) w) : QE I (fun KK => IAr 16 1 (.pointer (some ⟨b, 0, none⟩)) (.int .i64 (q : Int)) fun v => KK v) B w := qe _ (fun _ _ => iar_ok h ⟨rfl, rfl⟩) k
theorem apart_ok {l : List Op} (hl : l.length ≤ maxLen) (hop : ∀ x ∈ l, (I64 x.a ∧ I64 x.n ∧ I64 x.p) ∧ Pi x.x) (ho : OldL w0 9 oc lv l) (hm : Old w0 ∈ L) (d : D w0 L w) (k : ∀ w', D w0 L w' → K (.bool true) w') :
    Cl pg 5 #[lv] K w := by
  refine V.jacinthlaw09_RegionApart_ok ?_
  unfold V.jacinthlaw09_RegionApart
  have aw : ∀ (w : World), D w0 L w → Cl pg 7 #[] (fun v w => K v w) w := fun w d => awake_ok d k
  refine fn20 (fun _ _ => rfl) (New_ok (by omega) (by omega) (by omega) d fun b w d => ?_)
  repeat (simp +decide only [SEM])
  refine ho.len ?_
  repeat (simp +decide only [SEM])
  refine ⟨fun h => fn00 (fun _ _ => rfl) (aw w d.tail), fun h => ?_⟩
  refine d_new (arL fun _ => 0) d fun bv w d => ?_
  refine d_new (arL fun _ => 0) d fun bf w d => ?_
  refine d_new (arL fun _ => 0) d fun bp w d => ?_
  have d : D w0 (ar bv (fun _ => 0) :: ar bf (fun _ => 0) :: ar bp (fun _ => 0) :: Rg b 1024 100 [] :: L) w := D.sel [2, 1, 0] d
  refine ho.len ?_
  refine ⟨fun vs w' => ∃ (i : Nat) (S : List Pc) (V F Q : Nat → Int) (u : Value), vs = [u, .int .i64 i] ∧ i ≤ l.length ∧ (∀ y ∈ S, I64 y.v) ∧ Tel S V F Q ∧ D w0 (ar bv V :: ar bf F :: ar bp Q :: Rg b 1024 100 S :: L) w', fun vs _ => match vs with | [_, .int _ i] => l.length - i.toNat | _ => 0, ⟨0, [], _, _, _, _, rfl, by omega, by simp, fun k hk => ⟨fun c ⟨y, hy, _⟩ => by (cases hy), fun _ => rfl⟩, d⟩, ?_⟩
  clear d
  rintro _ w ⟨i, S, V, F, Q, u, rfl, hi, hv, ht, d⟩ _
  simp only [UN]
  repeat (simp +decide only [SEM])
  refine ⟨fun hlt => ?_, fun hge => ?_⟩
  · have hlt' : i < l.length := by omega
    have ok := Rg.facts (D.sel [3] d)
    refine ho.ia (by omega) hlt fun a ha => ?_
    simp only [Int.toNat_natCast] at ha
    refine old_ldN (oc l[i]) d (by simp [hm]) rfl (fun j x hx => ha j x hx) ?_
    have hx := hop l[i] (List.getElem_mem _)
    generalize l[i] = o at hx ⊢
    obtain ⟨kd, at_, m, p, x⟩ := o
    obtain ⟨⟨hat, hmI, hpI⟩, hx⟩ := hx
    have nxt : ∀ (A : HP) (w : World) (S' : List Pc) (V' F' Q' : Nat → Int) (u' : Value), (∀ y ∈ S', I64 y.v) → Tel S' V' F' Q' → D w0 (A :: ar bv V' :: ar bf F' :: ar bp Q' :: Rg b 1024 100 S' :: L) w →
        (∃ (i' : Nat) (S : List Pc) (V F Q : Nat → Int) (u'' : Value), [u', .int .i64 (IntKind.i64.wrap ((i : Int) + 1))] = [u'', Value.int .i64 i'] ∧ i' ≤ l.length ∧ (∀ y ∈ S, I64 y.v) ∧ Tel S V F Q ∧ D w0 (ar bv V :: ar bf F :: ar bp Q :: Rg b 1024 100 S :: L) w) ∧ l.length - (IntKind.i64.wrap ((i : Int) + 1)).toNat < l.length - i := by
      intro A w S' V' F' Q' u' h1 h2 d
      rw [w64 (by omega) (by omega)]
      exact ⟨⟨i + 1, S', V', F', Q', u', by simp, by omega, h1, h2, d.tail⟩, by omega⟩
    simp only [oc]
    repeat (first | (simp +decide only [SEM]) | (apply ldm d; (focus ((repeat (first | exact .h _ | refine .t _ _ ?_)); done)); (focus rfl)) | (refine d_new _ d fun bn w d => ?_) | (apply swm d; (focus ((repeat (first | exact .h _ | apply Rp.t)); done)); (focus rfl); (focus rfl); (focus exact ones rfl); intro w d; simp only [SPL] at d))
    generalize bn = bo at d ⊢
    refine ⟨fun h1 => ?_, fun h1 => ?_⟩
    · repeat (first | (apply lam d; (focus ((repeat (first | exact .h _ | refine .t _ _ ?_)); done)); (focus rfl)) | (refine d_new _ d fun bn w d => ?_) | (apply swm d; (focus ((repeat (first | exact .h _ | apply Rp.t)); done)); (focus rfl); (focus rfl); (focus exact ones rfl); intro w d; simp only [SPL] at d) | (apply lpm d; (focus ((repeat (first | exact .h _ | refine .t _ _ ?_)); done)); (focus (simp only [SEM]; rfl)); (focus rfl)))
      generalize bn = bx at d ⊢
      refine fn20 (fun _ _ => rfl) (Put_ok (x := x) hx hv (D.sel [5] d) (fun hp w d => ?_) (fun hp w d => ?_))
      · repeat (simp +decide only [SEM])
        refine ⟨fun h => absurd h hp, fun _ => ?_⟩
        exact nxt _ w S V F Q _ hv ht (D.sel [1, 2, 3, 4, 5, 0] d).tail
      · have g := put0.1 hp
        have h1 := g.a0; have h2 := g.n0; have h3 := g.am; have h4 := g.nm; have h5 := g.en; have h6 := g.f0
        obtain ⟨aq, haq⟩ : ∃ aq : Nat, x.a = 64 * (aq : Int) := ⟨(x.a / 64).toNat, by omega⟩
        obtain ⟨nq, hnq⟩ : ∃ nq : Nat, x.n = 64 * (nq : Int) := ⟨(x.n / 64).toNat, by omega⟩
        have ea : IntKind.i64.wrap (x.a.tdiv 64) = (aq : Int) := by rw [haq]; exact q64 aq (by omega)
        have en : IntKind.i64.wrap (x.n.tdiv 64) = (nq : Int) := by rw [hnq]; exact q64 nq (by omega)
        have hv2 : ∀ y ∈ insP S x, I64 y.v := fun y hy => by
          rcases ins_mem.1 hy with rfl | hy
          · exact hx.2.2.1
          · exact hv y hy
        repeat (first | (simp +decide only [SEM]) | (apply ldm d; (focus ((repeat (first | exact .h _ | refine .t _ _ ?_)); done)); (focus rfl)))
        rw [en]
        refine ⟨fun vs w' => ∃ (j : Nat) (u2 : Value), vs = [u2, .int .i64 j] ∧ j ≤ nq ∧ D w0 (cel bx 27 [.int .i64 x.a, .int .i64 x.n, .int .i64 x.v, .int .i64 x.f, .int .i64 x.p] :: ar bv (stp aq j (fun _ => IntKind.i64.wrap (x.v + 1)) V) :: ar bf (stp aq j (fun q => x.f + 64 * ((q : Int) - aq)) F) :: ar bp (stp aq j (fun _ => x.p) Q) :: Rg b 1024 100 (insP S x) :: L) w', fun vs _ => match vs with | [_, .int _ j] => nq - j.toNat | _ => 0, ⟨0, _, rfl, by omega, ?_⟩, ?_⟩
        · rw [stp_0, stp_0, stp_0]
          exact (D.sel [2, 1, 3, 4, 5, 0] d).tail
        clear d
        rintro _ w ⟨j, u2, rfl, hj, d⟩ _
        simp only [UN]
        repeat (simp +decide only [SEM])
        refine ⟨fun hlt2 => ?_, fun hge2 => ?_⟩
        · have hj' : j < nq := by omega
          have hq : aq + j < 16 := by omega
          have ei : IntKind.i64.wrap (IntKind.i64.wrap (x.a.tdiv 64) + (j : Int)) = ((aq + j : Nat) : Int) := by rw [ea, w64 (by omega) (by omega)]; omega
          repeat (first | (simp +decide only [SEM]) | (apply ldm d; (focus ((repeat (first | exact .h _ | refine .t _ _ ?_)); done)); (focus rfl)))
          rw [ei]
          refine iar_ok hq ?_
          refine ar_ld hq d (.t _ _ (.h _)) ?_
          have h0 : stp aq j (fun _ => IntKind.i64.wrap (x.v + 1)) V (aq + j) = 0 := by
            unfold stp
            rw [if_neg (by omega)]
            refine (ht (aq + j) hq).2 fun c ⟨y, hy, hc, _⟩ => ?_
            have h7 := g.no y hy
            unfold ovB at h7
            have h7 := of_decide_eq_false h7
            have := (ok.all y hy).a0; have := (ok.all y hy).n0
            unfold cov at hc
            omega
          rw [h0]
          simp +decide only [SEM]
          refine drw d fun w d => ?_
          have d1 : D w0 [cel bx 27 [.int .i64 x.a, .int .i64 x.n, .int .i64 x.v, .int .i64 x.f, .int .i64 x.p]] w := D.only [0] d
          refine qt d1 ?_
          clear d1
          have ef : IntKind.i64.wrap (x.f + IntKind.i64.wrap (64 * (j : Int))) = x.f + 64 * (((aq + j : Nat) : Int) - aq) := by rw [w64 (n := 64 * (j : Int)) (by omega) (by omega), w64 (by omega) (by omega)]; omega
          repeat (first | refine qe_nil ?_ | (apply qlm; (focus ((repeat (first | exact .h _ | refine .t _ _ ?_)); done)); (focus rfl)) | refine qe_op (fun _ _ => BinI_add) ?_ | refine qe_op (fun _ _ => BinI_mul) ?_ | refine qe_op (fun _ _ => BinI_quo rfl) ?_)
          rw [ei, ef]
          refine qiar16 hq ?_
          refine ar_st hq d (.t _ _ _ (.h _)) fun w d => ?_
          refine ch (show D w0 [cel bx 27 [.int .i64 x.a, .int .i64 x.n, .int .i64 x.v, .int .i64 x.f, .int .i64 x.p]] w from D.only [0] d) ?_
          refine iar_ok hq ?_
          refine ch (show D w0 [cel bx 27 [.int .i64 x.a, .int .i64 x.n, .int .i64 x.v, .int .i64 x.f, .int .i64 x.p]] w from D.only [0] d) ?_
          refine ar_st hq d (.t _ _ _ (.t _ _ _ (.h _))) fun w d => ?_
          refine ch (show D w0 [cel bx 27 [.int .i64 x.a, .int .i64 x.n, .int .i64 x.v, .int .i64 x.f, .int .i64 x.p]] w from D.only [0] d) ?_
          refine iar_ok hq ?_
          refine ar_st hq d (.t _ _ _ (.t _ _ _ (.t _ _ _ (.h _)))) fun w d => ?_
          have s1 := stp_succ aq j (fun _ => IntKind.i64.wrap (x.v + 1)) V
          have s2 : upN (stp aq j (fun q => x.f + 64 * ((q : Int) - aq)) F) (aq + j) (x.f + 64 * (((aq + j : Nat) : Int) - aq)) = stp aq (j + 1) (fun q => x.f + 64 * ((q : Int) - aq)) F := stp_succ aq j _ F
          have s3 := stp_succ aq j (fun _ => x.p) Q
          rw [s1, s2, s3] at d
          repeat (simp +decide only [SEM])
          rw [w64 (by omega) (by omega)]
          exact ⟨⟨j + 1, u2, by simp, by omega, d⟩, by omega⟩
        · have hj' : j = nq := by omega
          subst hj'
          repeat (first | (simp +decide only [SEM]) | (apply ldm d; (focus ((repeat (first | exact .h _ | refine .t _ _ ?_)); done)); (focus rfl)))
          refine ⟨fun h => fn00 (fun _ _ => rfl) (aw w (D.tail (D.tail (D.tail (D.tail (D.tail d)))))), fun hv1 => ?_⟩
          exact nxt _ w _ _ _ _ _ hv2 (tel_put ok g ht haq hnq hv1) d
    · skip
      refine ⟨fun h3 => ?_, fun h3 => ?_⟩
      · repeat (first | (simp +decide only [SEM]) | (apply ldm d; (focus ((repeat (first | exact .h _ | refine .t _ _ ?_)); done)); (focus rfl)))
        refine fn30 (fun _ _ => rfl) (Cut_ok ⟨hat, hmI⟩ (D.sel [4] d) (fun h5 w d => ?_) (fun h5 h6 iv w d => ?_) (fun h5 h6 w d => ?_))
        · repeat (simp +decide only [SEM])
          refine ⟨fun h => absurd h h5, fun _ => ?_⟩
          exact nxt _ w S V F Q _ hv ht (D.sel [1, 2, 3, 4, 0] d)
        · have hc := chk0 h5
          obtain ⟨aq, haq⟩ : ∃ aq : Nat, at_ = 64 * (aq : Int) := ⟨(at_ / 64).toNat, by omega⟩
          obtain ⟨nq, hnq⟩ : ∃ nq : Nat, m = 64 * (nq : Int) := ⟨(m / 64).toNat, by omega⟩
          have ea : IntKind.i64.wrap (at_.tdiv 64) = (aq : Int) := by rw [haq]; exact q64 aq (by omega)
          have en : IntKind.i64.wrap (m.tdiv 64) = (nq : Int) := by rw [hnq]; exact q64 nq (by omega)
          have hm2 : 0 ≤ at_ ∧ 0 < m := ⟨by omega, by omega⟩
          have hv2 : ∀ y ∈ S.flatMap (outP at_ m), I64 y.v := fun y hy => by
            obtain ⟨z, hz, hy⟩ := List.mem_flatMap.1 hy
            have e1 : y.v = z.v := congrArg (fun c => c.1) (outP_in ⟨(ok.all z hz).a0, (ok.all z hz).n0⟩ hm2 y hy).2.2.2.1
            rw [e1]; exact hv z hz
          repeat (first | (simp +decide only [SEM]) | (apply ldm d; (focus ((repeat (first | exact .h _ | refine .t _ _ ?_)); done)); (focus rfl)))
          rw [en]
          refine ⟨fun vs w' => ∃ (j : Nat), vs = [.int .i64 j] ∧ j ≤ nq ∧ D w0 (cel bo 43 [.int .i64 kd, .int .i64 at_, .int .i64 m, .int .i64 p, .int .i64 x.a, .int .i64 x.n, .int .i64 x.v, .int .i64 x.f, .int .i64 x.p] :: ar bv (stp aq j (fun _ => 0) V) :: ar bf F :: ar bp Q :: Rg b 1024 100 (S.flatMap (outP at_ m)) :: L) w', fun vs _ => match vs with | [.int _ j] => nq - j.toNat | _ => 0, ⟨0, rfl, by omega, ?_⟩, ?_⟩
          · rw [stp_0]
            exact (D.sel [0, 2, 3, 4, 5, 1] d).tail
          clear d
          rintro _ w ⟨j, rfl, hj, d⟩ _
          simp only [UN]
          repeat (simp +decide only [SEM])
          refine ⟨fun hlt2 => ?_, fun hge2 => ?_⟩
          · have hj' : j < nq := by omega
            have hq : aq + j < 16 := by omega
            have ei : IntKind.i64.wrap (IntKind.i64.wrap (at_.tdiv 64) + (j : Int)) = ((aq + j : Nat) : Int) := by rw [ea, w64 (by omega) (by omega)]; omega
            repeat (first | (simp +decide only [SEM]) | (apply ldm d; (focus ((repeat (first | exact .h _ | refine .t _ _ ?_)); done)); (focus rfl)))
            rw [ei]
            refine iar_ok hq ?_
            refine ar_st hq d (.t _ _ _ (.h _)) fun w d => ?_
            have s1 := stp_succ aq j (fun _ => 0) V
            rw [s1] at d
            repeat (simp +decide only [SEM])
            rw [w64 (by omega) (by omega)]
            exact ⟨⟨j + 1, by simp, by omega, d⟩, by omega⟩
          · have hj' : j = nq := by omega
            subst hj'
            exact nxt _ w _ _ _ _ _ hv2 (tel_cut ok hm2 ht haq hnq) d
        · repeat (simp +decide only [SEM])
          exact nxt _ w S V F Q _ hv ht (D.sel [1, 2, 3, 4, 0] d)
      · skip
        refine ⟨fun h4 => ?_, fun h4 => ?_⟩
        · repeat (first | (simp +decide only [SEM]) | (apply ldm d; (focus ((repeat (first | exact .h _ | refine .t _ _ ?_)); done)); (focus rfl)))
          refine fn40 (fun _ _ => rfl) (Protect_ok ⟨hat, hmI, hpI⟩ (D.sel [4] d) (fun s hs w d => ?_) (fun h5 h6 P w hP d => ?_))
          · repeat (simp +decide only [SEM])
            refine ⟨fun h => absurd h hs, fun _ => ?_⟩
            exact nxt _ w S V F Q _ hv ht (D.sel [1, 2, 3, 4, 0] d)
          · have hc := chk0 h5
            obtain ⟨aq, haq⟩ : ∃ aq : Nat, at_ = 64 * (aq : Int) := ⟨(at_ / 64).toNat, by omega⟩
            obtain ⟨nq, hnq⟩ : ∃ nq : Nat, m = 64 * (nq : Int) := ⟨(m / 64).toNat, by omega⟩
            have ea : IntKind.i64.wrap (at_.tdiv 64) = (aq : Int) := by rw [haq]; exact q64 aq (by omega)
            have en : IntKind.i64.wrap (m.tdiv 64) = (nq : Int) := by rw [hnq]; exact q64 nq (by omega)
            have hm2 : 0 ≤ at_ ∧ 0 < m := ⟨by omega, by omega⟩
            have hv2 : ∀ y ∈ P, I64 y.v := fun y hy => by
              rcases List.mem_append.1 (hP.mem_iff.1 hy) with hy | hy
              · obtain ⟨z, hz, hy⟩ := List.mem_flatMap.1 hy
                have e1 : y.v = z.v := congrArg (fun c => c.1) (outP_in ⟨(ok.all z hz).a0, (ok.all z hz).n0⟩ hm2 y hy).2.2.2.1
                rw [e1]; exact hv z hz
              · obtain ⟨u, hu, rfl⟩ := List.mem_map.1 hy
                obtain ⟨z, hz, hu⟩ := List.mem_flatMap.1 hu
                have e1 : u.v = z.v := congrArg (fun c => c.1) (inP_in ⟨(ok.all z hz).a0, (ok.all z hz).n0⟩ hm2 u hu).2.2.2.1
                show I64 u.v
                rw [e1]; exact hv z hz
            repeat (first | (simp +decide only [SEM]) | (apply ldm d; (focus ((repeat (first | exact .h _ | refine .t _ _ ?_)); done)); (focus rfl)))
            rw [en]
            refine ⟨fun vs w' => ∃ (j : Nat), vs = [.int .i64 j] ∧ j ≤ nq ∧ D w0 (cel bo 43 [.int .i64 kd, .int .i64 at_, .int .i64 m, .int .i64 p, .int .i64 x.a, .int .i64 x.n, .int .i64 x.v, .int .i64 x.f, .int .i64 x.p] :: ar bv V :: ar bf F :: ar bp (stp aq j (fun _ => p) Q) :: Rg b 1024 100 P :: L) w', fun vs _ => match vs with | [.int _ j] => nq - j.toNat | _ => 0, ⟨0, rfl, by omega, ?_⟩, ?_⟩
            · rw [stp_0]
              exact D.sel [1, 2, 3, 4, 0] d
            clear d
            rintro _ w ⟨j, rfl, hj, d⟩ _
            simp only [UN]
            repeat (simp +decide only [SEM])
            refine ⟨fun hlt2 => ?_, fun hge2 => ?_⟩
            · have hj' : j < nq := by omega
              have hq : aq + j < 16 := by omega
              have ei : IntKind.i64.wrap (IntKind.i64.wrap (at_.tdiv 64) + (j : Int)) = ((aq + j : Nat) : Int) := by rw [ea, w64 (by omega) (by omega)]; omega
              repeat (first | (simp +decide only [SEM]) | (apply ldm d; (focus ((repeat (first | exact .h _ | refine .t _ _ ?_)); done)); (focus rfl)))
              rw [ei]
              refine iar_ok hq ?_
              refine ar_st hq d (.t _ _ _ (.t _ _ _ (.t _ _ _ (.h _)))) fun w d => ?_
              have s1 := stp_succ aq j (fun _ => p) Q
              rw [s1] at d
              repeat (simp +decide only [SEM])
              rw [w64 (by omega) (by omega)]
              exact ⟨⟨j + 1, by simp, by omega, d⟩, by omega⟩
            · have hj' : j = nq := by omega
              subst hj'
              exact nxt _ w _ _ _ _ _ hv2 (tel_prot ok hm2 ht haq hnq hP) d
        · exact nxt _ w S V F Q _ hv ht d
  · have ok := Rg.facts (D.sel [3] d)
    refine fn10 (fun _ _ => rfl) (List_ok (D.sel [3] d) fun lv2 w d => ?_)
    obtain ⟨q1, c1, rfl, -⟩ := Rw.shape d.1
    repeat (simp +decide only [SEM])
    refine ⟨fun vs w' => ∃ (j : Nat) (u2 : Value), vs = [u2, .int .i64 j] ∧ j ≤ S.length ∧ D w0 (Rw 27 5 (.slice q1 S.length c1) S.length (S.flatMap pc) :: Rg b 1024 100 S :: ar bv V :: ar bf F :: ar bp Q :: L) w', fun vs _ => match vs with | [_, .int _ j] => S.length - j.toNat | _ => 0, ⟨0, _, rfl, by omega, d⟩, ?_⟩
    clear d
    rintro _ w ⟨j, u2, rfl, hj, d⟩ _
    simp only [UN]
    repeat (simp +decide only [SEM])
    refine ⟨fun hlt2 => ?_, fun hge2 => ?_⟩
    · have hj' : j < S.length := by omega
      have hp := ok.all _ (List.getElem_mem hj')
      have h1 := hp.n0; have h2 := hp.en; have h3 := hp.a0; have h4 := hp.nm
      have hSl := ok.len
      have hprev : 0 < j → ∀ (h : j - 1 < S.length), S[j - 1].a + S[j - 1].n ≤ S[j].a ∧ 0 ≤ S[j - 1].a ∧ 0 < S[j - 1].n := fun h0 h => by
        have hp2 := ok.all _ (List.getElem_mem h)
        exact ⟨up_a ok h hj' (by omega), hp2.a0, hp2.n0⟩
      refine rw_elN d (.h _) pc_len hj' ?_
      have hpx : pc S[j] = [.int .i64 S[j].a, .int .i64 S[j].n, .int .i64 S[j].v, .int .i64 S[j].f, .int .i64 S[j].p] := rfl
      rw [hpx]
      repeat (first | refine drw d fun w d => ?_ | (simp +decide only [SEM]) | (apply ldm d; (focus ((repeat (first | exact .h _ | refine .t _ _ ?_)); done)); (focus rfl)) | (refine d_new _ d fun bn w d => ?_) | (apply swm d; (focus ((repeat (first | exact .h _ | apply Rp.t)); done)); (focus rfl); (focus rfl); (focus exact ones rfl); intro w d; simp only [SPL] at d))
      generalize bn = bx at d ⊢
      have nxt : ∀ w, D w0 (cel bx 27 [.int .i64 S[j].a, .int .i64 S[j].n, .int .i64 S[j].v, .int .i64 S[j].f, .int .i64 S[j].p] :: Rw 27 5 (.slice q1 S.length c1) S.length (S.flatMap pc) :: Rg b 1024 100 S :: ar bv V :: ar bf F :: ar bp Q :: L) w →
          (∃ (j' : Nat) (u3 : Value), [u2, .int .i64 (IntKind.i64.wrap ((j : Int) + 1))] = [u3, Value.int .i64 j'] ∧ j' ≤ S.length ∧ D w0 (Rw 27 5 (.slice q1 S.length c1) S.length (S.flatMap pc) :: Rg b 1024 100 S :: ar bv V :: ar bf F :: ar bp Q :: L) w) ∧ S.length - (IntKind.i64.wrap ((j : Int) + 1)).toNat < S.length - j := fun w d => by
        rw [w64 (by omega) (by omega)]
        exact ⟨⟨j + 1, u2, by simp, by omega, d.tail⟩, by omega⟩
      refine ⟨fun _ => ?_, fun h => by omega⟩
      repeat (first | (simp +decide only [SEM]) | (apply ldm d; (focus ((repeat (first | exact .h _ | refine .t _ _ ?_)); done)); (focus rfl)) | refine qt d ?_)
      refine ⟨fun _ => ?_, fun h => by omega⟩
      repeat (first | (simp +decide only [SEM]) | refine qe_nil ?_ | (apply qlm; (focus ((repeat (first | exact .h _ | refine .t _ _ ?_)); done)); (focus rfl)))
      rw [w64 (n := S[j].a + S[j].n) (by omega) (by omega)]
      refine ⟨fun _ => ?_, fun h => by omega⟩
      repeat (first | (simp +decide only [SEM]) | refine qt d ?_)
      refine ⟨fun h5 => ?_, fun h5 => nxt w d⟩
      have h7 : IntKind.i64.wrap ((j : Int) - 1) = ((j - 1 : Nat) : Int) := by rw [w64 (by omega) (by omega)]; omega
      obtain ⟨bi, c9, e⟩ := rw_ptr d (.t _ _ (.h _)) (by omega)
      cases e
      have hj1 : j - 1 < S.length := by omega
      obtain ⟨h8, h9, h10⟩ := hprev (by omega) hj1
      repeat (refine qe_op (fun _ _ => BinI_sub) ?_)
      rw [h7]
      repeat (first | refine qe_nil ?_ | refine qe_op (fun _ _ => BinI_sub) ?_ | refine qia (by first | omega | (simp; omega)) ?_ | (focus (apply ql0; (focus ((repeat (first | exact .h _ | refine .t _ _ ?_)); done)); (focus exact fun _ => rfl); (focus rfl); rotate_left; (focus (first | omega | (simp; done) | (simp; omega))))))
      rw [h7]
      repeat (first | (simp +decide only [SEM]) | refine qe_nil ?_ | (apply qlm; (focus ((repeat (first | exact .h _ | refine .t _ _ ?_)); done)); (focus rfl)) | refine qe_op (fun _ _ => BinI_add) ?_ | refine qia (by first | omega | (simp; omega)) ?_ | (focus (apply ql1; (focus ((repeat (first | exact .h _ | refine .t _ _ ?_)); done)); (focus exact fun _ => rfl); (focus rfl); rotate_left; (focus (first | omega | (simp; done) | (simp; omega))))))
      rw [w64 (n := S[j - 1].a + S[j - 1].n) (by omega) (by omega)]
      exact ⟨fun h => by omega, fun _ => nxt w d⟩
    · have hts := tot_sum ok.all
      have htb : ∀ k, k ≤ 16 → 0 ≤ tot S k ∧ tot S k ≤ (k : Int) * 64 := by
        intro k
        induction k with
        | zero => intro _; simp [tot]
        | succ k ih =>
          intro hk
          have h1 := ih (by omega)
          have h2 : cvN S (64 * (k : Int)) = 0 ∨ cvN S (64 * (k : Int)) = 64 := by
            by_cases h : ∃ x ∈ S, cov x (64 * (k : Int))
            · exact .inr (cvN_some ok.up h)
            · exact .inl (cvN_none fun x hx hc => h ⟨x, hx, hc⟩)
          rw [tot]
          omega
      refine ⟨fun vs w' => ∃ (k : Nat) (u3 : Value), vs = [u3, .int .i64 (tot S k), .int .i64 k] ∧ k ≤ 16 ∧ D w0 (Rg b 1024 100 S :: ar bv V :: ar bf F :: ar bp Q :: L) w', fun vs _ => match vs with | [_, _, .int _ k] => 16 - k.toNat | _ => 0, ⟨0, _, rfl, by omega, d.tail⟩, ?_⟩
      clear d
      rintro _ w ⟨kk, u3, rfl, hk, d⟩ _
      simp only [UN]
      repeat (simp +decide only [SEM])
      refine ⟨fun hlt3 => ?_, fun hge3 => ?_⟩
      · have hk' : kk < 16 := by omega
        have e1 : IntKind.i64.wrap (64 * (kk : Int)) = 64 * (kk : Int) := w64 (by omega) (by omega)
        have e2 : IntKind.i64.wrap (64 * (kk : Int) + 63) = 64 * (kk : Int) + 63 := w64 (by omega) (by omega)
        rw [e1, e2]
        refine fn20 (fun _ _ => rfl) (Find_ok ⟨by omega, by omega⟩ (by omega) hv d fun w d => ?_)
        obtain ⟨t1, t2⟩ := ht kk hk'
        have b1 := htb kk (by omega)
        have nxt : ∀ (A : HP) w (n : Int), n = tot S (kk + 1) → D w0 (A :: Rg b 1024 100 S :: ar bv V :: ar bf F :: ar bp Q :: L) w →
            (∃ (k' : Nat) (u4 : Value), [u3, .int .i64 n, .int .i64 (IntKind.i64.wrap ((kk : Int) + 1))] = [u4, Value.int .i64 (tot S k'), .int .i64 k'] ∧ k' ≤ 16 ∧ D w0 (Rg b 1024 100 S :: ar bv V :: ar bf F :: ar bp Q :: L) w) ∧ 16 - (IntKind.i64.wrap ((kk : Int) + 1)).toNat < 16 - kk := fun A w n hn d => by
          rw [w64 (by omega) (by omega)]
          exact ⟨⟨kk + 1, u3, by rw [hn]; simp, by omega, d.tail⟩, by omega⟩
        cases hf : fnd S (64 * (kk : Int) + 63) with
        | none =>
          have hno : ∀ c, ¬ Has S (64 * (kk : Int)) c := fun c hc => by
            have := (val_iff ok (by omega) c).2 ((has_63 ok kk c).2 hc)
            rw [hf] at this
            cases this
          have h0 := t2 hno
          have hcv : cvN S (64 * (kk : Int)) = 0 := cvN_none fun x hx hc => hno _ ⟨x, hx, hc, rfl⟩
          simp only [pcO, Option.isSome_none]
          repeat (first | refine drw d fun w d => ?_ | (simp +decide only [SEM]) | (refine d_new _ d fun bn w d => ?_) | refine qt d ?_ | (apply swm d; (focus ((repeat (first | exact .h _ | apply Rp.t)); done)); (focus rfl); (focus rfl); (focus exact ones rfl); intro w d; simp only [SPL] at d))
          refine qiar16 hk' ?_
          refine qar hk' (.t _ _ (.t _ _ (.h _))) ?_
          rw [h0]
          repeat (first | (simp +decide only [SEM]) | refine qt d ?_ | refine qe_op (fun _ _ => BinI_neq) ?_)
          exact nxt _ w _ (by rw [tot, hcv]; omega) d
        | some y =>
          have hh : Has S (64 * (kk : Int)) (vals y) := (has_63 ok kk _).1 ((val_iff ok (by omega) _).1 (by rw [hf]; rfl))
          obtain ⟨v1, v2, v3, v4⟩ := t1 _ hh
          have hyS := ((fnd_some ok (by omega)).1 hf).1
          have hp := ok.all y hyS
          have h1 := hp.n0; have h2 := hp.en; have h3 := hp.a0; have h4 := hp.f0; have h5 := hp.fa
          have hV0 := wr0 (hv y hyS) v2
          simp only [vals] at v1 v2 v3 v4 hV0
          have hd0 : decide (IntKind.i64.wrap (y.v + 1) = 0) = false := decide_eq_false hV0
          have hcv : cvN S (64 * (kk : Int)) = 64 := by
            obtain ⟨z, hz, hc, _⟩ := hh
            exact cvN_some ok.up ⟨z, hz, hc⟩
          have hpx : pc y = [.int .i64 y.a, .int .i64 y.n, .int .i64 y.v, .int .i64 y.f, .int .i64 y.p] := rfl
          simp only [pcO, hpx, Option.isSome_some]
          repeat (first | refine drw d fun w d => ?_ | (simp +decide only [SEM]) | (refine d_new _ d fun bn w d => ?_) | refine qt d ?_ | (apply swm d; (focus ((repeat (first | exact .h _ | apply Rp.t)); done)); (focus rfl); (focus rfl); (focus exact ones rfl); intro w d; simp only [SPL] at d))
          refine qiar16 hk' ?_
          refine qar hk' (.t _ _ (.t _ _ (.h _))) ?_
          rw [v1]
          repeat (first | (simp +decide only [SEM]) | refine qe_op (fun _ _ => BinI_neq) ?_)
          rw [hd0]
          repeat (first | (simp +decide only [SEM]) | refine qt d ?_ | refine qe_nil ?_ | (apply qlm; (focus ((repeat (first | exact .h _ | refine .t _ _ ?_)); done)); (focus rfl)) | refine qe_op (fun _ _ => BinI_add) ?_)
          refine qiar16 hk' ?_
          refine qar hk' (.t _ _ (.t _ _ (.h _))) ?_
          rw [v1]
          repeat (first | (simp +decide only [SEM]) | refine qt d ?_ | refine qe_nil ?_ | (apply qlm; (focus ((repeat (first | exact .h _ | refine .t _ _ ?_)); done)); (focus rfl)) | refine qe_op (fun _ _ => BinI_add) ?_ | refine qe_op (fun _ _ => BinI_sub) ?_ | refine qe_op (fun _ _ => BinI_mul) ?_)
          rw [e1, w64 (n := y.f + 64 * (kk : Int)) (by omega) (by omega), w64 (n := y.f + 64 * (kk : Int) - y.a) (by omega) (by omega)]
          refine qiar16 hk' ?_
          refine qar hk' (.t _ _ (.t _ _ (.t _ _ (.h _)))) ?_
          rw [v3]
          repeat (first | (simp +decide only [SEM]) | refine qt d ?_)
          refine ⟨fun _ => ?_, fun h => by omega⟩
          repeat (first | refine qe_nil ?_ | (apply qlm; (focus ((repeat (first | exact .h _ | refine .t _ _ ?_)); done)); (focus rfl)))
          refine qiar16 hk' ?_
          refine qar hk' (.t _ _ (.t _ _ (.t _ _ (.t _ _ (.h _))))) ?_
          rw [v4]
          repeat (simp +decide only [SEM])
          rw [w64 (n := tot S kk + 64) (by omega) (by omega)]
          exact nxt _ w _ (by rw [tot, hcv]) d
      · have hk' : kk = 16 := by omega
        subst hk'
        refine fn10 (fun _ _ => rfl) (Mapped_ok d fun w d => ?_)
        have hSs : (S.map (·.n)).sum = sumN S := rfl
        rw [hSs, hts]
        repeat (simp +decide only [SEM])
        exact fn00 (fun _ _ => rfl) (aw w (D.tail (D.tail (D.tail (D.tail d)))))
theorem apart_law {n : Nat} (h : OldSl pg w0 43 9 lv n) (hm : Old w0 ∈ L) (d : D w0 L w) (k : ∀ w', D w0 L w' → K (.bool true) w') :
    Cl pg 5 #[lv] K w := by
  obtain ⟨l, hl, hop, ho, hn⟩ := ops_of h
  exact apart_ok (by omega) hop ho hm d k
end
end Go.Proofs.Ytplllehpaimpiaa
