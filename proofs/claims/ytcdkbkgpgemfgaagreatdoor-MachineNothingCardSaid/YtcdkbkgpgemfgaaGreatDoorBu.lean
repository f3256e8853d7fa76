/- A loop, walked round by round; what a code asks grows with what it ends in. -/
import Derived.Test.YtcdkbkgpgemfgaaGreatDoorBj
namespace Go.Jac
open Go
/-- n rounds at most. -/
def Unr (body : (List Value → WP) → List Value → WP) : Nat → List Value → WP
  | 0 => fun _ _ => False
  | n + 1 => body (Unr body n)
theorem leastN {P : Nat → Prop} : ∀ n, P n → ∃ m, P m ∧ ∀ k, P k → m ≤ k := by
  intro n
  induction n using Nat.strongRecOn with
  | _ n ih =>
    intro h
    by_cases hh : ∃ k, k < n ∧ P k
    · obtain ⟨k, h1, h2⟩ := hh
      exact ih k h1 h2
    · exact ⟨n, h, fun k hk => by
        rcases Nat.lt_or_ge k n with h1 | h1
        · exact absurd ⟨k, h1, hk⟩ hh
        · exact h1⟩
open Classical in
noncomputable def rounds (body : (List Value → WP) → List Value → WP) (vs : List Value) (w : World) : Nat :=
  if h : ∃ n, Unr body n vs w then Classical.choose (leastN (P := fun n => Unr body n vs w) _ (Classical.choose_spec h)) else 0
theorem rounds_le {body : (List Value → WP) → List Value → WP} {vs : List Value} {w : World} {n : Nat} (h : Unr body n vs w) : Unr body (rounds body vs w) vs w ∧ rounds body vs w ≤ n := by
  have hh : ∃ n, Unr body n vs w := ⟨n, h⟩
  unfold rounds
  rw [dif_pos hh]
  have := Classical.choose_spec (leastN (P := fun n => Unr body n vs w) _ (Classical.choose_spec hh))
  exact ⟨this.1, this.2 n h⟩
theorem unroll {body : (List Value → WP) → List Value → WP} {init : List Value} {w : World} (n : Nat) (hm : ∀ K K' : List Value → WP, (∀ vs w, K vs w → K' vs w) → ∀ vs w, body K vs w → body K' vs w) (h : Unr body n init w) : LoopC init body w := by
  refine ⟨fun vs w => ∃ n, Unr body n vs w, rounds body, ⟨n, h⟩, fun vs w ⟨n, hn⟩ => ?_⟩
  obtain ⟨h1, -⟩ := rounds_le hn
  cases hr : rounds body vs w with
  | zero => rw [hr] at h1; exact h1.elim
  | succ m =>
    rw [hr] at h1
    refine hm _ _ (fun vs' w' h' => ⟨⟨m, h'⟩, ?_⟩) vs w h1
    have := (rounds_le h').2
    omega
/-- Round by round: R m is what is left for m rounds. -/
theorem unroll_at {body : (List Value → WP) → List Value → WP} {init : List Value} {w : World} (n : Nat) (hm : ∀ K K' : List Value → WP, (∀ vs w, K vs w → K' vs w) → ∀ vs w, body K vs w → body K' vs w)
    (h : ∀ R : Nat → List Value → WP, (∀ m vs w, body (R m) vs w → R (m + 1) vs w) → R n init w) : LoopC init body w := unroll n hm (h (Unr body) fun _ _ _ h => h)
section
variable {P : Program} {K K' : Value → WP} {w : World} {A A' B B' : WP}
abbrev Le (K K' : Value → WP) : Prop := ∀ v w, K v w → K' v w
theorem FnV_mono {f : Value} {args : Array Value} (hk : Le K K') (h : FnV P f args K w) : FnV P f args K' w := by
  unfold FnV at h ⊢
  split at h
  · rcases h with ⟨h1, h2⟩ | ⟨v, w', h1, h2⟩
    · exact .inl ⟨h1, h2.mono hk⟩
    · exact .inr ⟨v, w', h1, hk _ _ h2⟩
  · obtain ⟨f, t, a, b, h1, h2, h3⟩ := h
    refine ⟨f, t, a, b, h1, h2, ?_⟩
    exact RoundIn.mono h3 fun e w' ⟨v, he, hv⟩ => ⟨v, he, hk _ _ hv⟩
  · exact h
theorem Ex_mono {s : Sem Value} (hk : Le K K') (h : Ex P s K w) : Ex P s K' w := by obtain ⟨v, w', h1, h2⟩ := h; exact ⟨v, w', h1, hk _ _ h2⟩
theorem Ld1_mono {a : Value} (hk : Le K K') (h : Ld1 a K w) : Ld1 a K' w := by obtain ⟨p, v, h1, h2, h3⟩ := h; exact ⟨p, v, h1, h2, hk _ _ h3⟩
theorem LdN_mono {n : Nat} {a : Value} (hk : Le K K') (h : LdN n a K w) : LdN n a K' w := by obtain ⟨p, v, h1, h2, h3, h4⟩ := h; exact ⟨p, v, h1, h2, h3, hk _ _ h4⟩
theorem St_mono {n : Nat} {a v : Value} (hk : Le K K') (h : St n a v K w) : St n a v K' w := by obtain ⟨p, h1, h2, h3, h4⟩ := h; exact ⟨p, h1, h2, h3, hk _ _ h4⟩
theorem New_mono {t : TypeId} {c : Array Value} (hk : Le K K') (h : New t c K w) : New t c K' w := hk _ _ h
theorem NilC_mono {x : Value} (hk : Le K K') (h : NilC x K w) : NilC x K' w := by
  unfold NilC at h ⊢
  split at h <;> first | exact hk _ _ h | exact h.elim
theorem FA_mono {x : Value} {n : Nat} (hk : Le K K') (h : FA x n K w) : FA x n K' w := by
  unfold FA at h ⊢
  split at h <;> first | exact hk _ _ h | exact h.elim
theorem IA_mono {n : Nat} {x i : Value} (hk : Le K K') (h : IA n x i K w) : IA n x i K' w := by
  obtain ⟨p, l, c, k, m, h1, h2, h3, h4, h5⟩ := h; exact ⟨p, l, c, k, m, h1, h2, h3, h4, hk _ _ h5⟩
theorem IAr_mono {l n : Nat} {x i : Value} (hk : Le K K') (h : IAr l n x i K w) : IAr l n x i K' w := by
  obtain ⟨p, k, m, h1, h2, h3, h4, h5⟩ := h; exact ⟨p, k, m, h1, h2, h3, h4, hk _ _ h5⟩
theorem BinI_mono {op : BinOp} {x y : Value} (hk : Le K K') (h : BinI op x y K w) : BinI op x y K' w := by
  obtain ⟨k, a, k', b, v, h1, h2, h3, h4⟩ := h; exact ⟨k, a, k', b, v, h1, h2, h3, hk _ _ h4⟩
theorem BinX_mono {op : BinOp} {t : TypeId} {ox oy : Operand} {x y : Value} (hk : Le K K') (h : BinX P op t ox oy x y K w) : BinX P op t ox oy x y K' w := Ex_mono hk h
theorem Un_mono {op : UnOp} {x : Value} (hk : Le K K') (h : Un op x K w) : Un op x K' w := by obtain ⟨v, h1, h2⟩ := h; exact ⟨v, h1, hk _ _ h2⟩
theorem Pick_mono {c a b : Value} (hk : Le K K') (h : Pick c a b K w) : Pick c a b K' w := by
  unfold Pick at h ⊢
  split at h <;> first | exact hk _ _ h | exact h.elim
theorem Ext_mono {t : Value} {i : Nat} (hk : Le K K') (h : Ext t i K w) : Ext t i K' w := by
  unfold Ext at h ⊢
  split at h
  · split at h
    · exact hk _ _ h
    · exact h
  · exact h
theorem ConvI_mono {k : IntKind} {x : Value} (hk : Le K K') (h : ConvI k x K w) : ConvI k x K' w := by
  unfold ConvI at h ⊢
  split at h <;> first | exact hk _ _ h | exact h.elim
theorem LenS_mono {x : Value} (hk : Le K K') (h : LenS x K w) : LenS x K' w := by
  unfold LenS at h ⊢
  split at h <;> first | exact hk _ _ h | exact h.elim
theorem AppC_mono {e es b : Nat} {z : Array Value} {s x : Value} (hk : Le K K') (h : AppC e es b z s x K w) : AppC e es b z s x K' w := by
  obtain ⟨base, sl, sc, n, news, h1, h2, h3⟩ := h
  refine ⟨base, sl, sc, n, news, h1, h2, ?_⟩
  rcases h3 with ⟨g1, g2, g3⟩ | ⟨b, o, g1, g2, g3, g4, g5⟩ | ⟨olds, g1, g2, g3, g4, g5⟩
  · exact .inl ⟨g1, g2, hk _ _ g3⟩
  · exact .inr (.inl ⟨b, o, g1, g2, g3, g4, hk _ _ g5⟩)
  · exact .inr (.inr ⟨olds, g1, g2, g3, g4, fun c hc => hk _ _ (g5 c hc)⟩)
theorem BSlC_mono {e n l : Nat} {z : Array Value} {p : Array (Nat × Value)} (hk : Le K K') (h : BSlC e n z l p K w) : BSlC e n z l p K' w := by
  obtain ⟨h1, c, h2, h3⟩ := h; exact ⟨h1, c, h2, hk _ _ h3⟩
theorem SlC_mono {n : Nat} {x : Value} {lo hi : Option Value} (hk : Le K K') (h : SlC n x lo hi K w) : SlC n x lo hi K' w := by
  obtain ⟨a, l, c, i, j, h1, h2, h3, h4⟩ := h; exact ⟨a, l, c, i, j, h1, h2, h3, hk _ _ h4⟩
theorem MkSC_mono {e n b : Nat} {z : Array Value} {l c : Value} (hk : Le K K') (h : MkSC e n b z l c K w) : MkSC e n b z l c K' w := by
  obtain ⟨k1, k2, n, m, h1, h2, h3, h4, h5, h6, h7⟩ := h; exact ⟨k1, k2, n, m, h1, h2, h3, h4, h5, h6, hk _ _ h7⟩
theorem EqB_mono {n : Bool} {x y : Value} (hk : Le K K') (h : EqB n x y K w) : EqB n x y K' w := by obtain ⟨a, b, h1, h2, h3⟩ := h; exact ⟨a, b, h1, h2, hk _ _ h3⟩
theorem EqP_mono {n : Bool} {x y : Value} (hk : Le K K') (h : EqP n x y K w) : EqP n x y K' w := by obtain ⟨b, h1, h2⟩ := h; exact ⟨b, h1, hk _ _ h2⟩
theorem EqS_mono {m : Nat} {n : Bool} {x y : Value} (hk : Le K K') (h : EqS m n x y K w) : EqS m n x y K' w := by obtain ⟨a, b, c, h1, h2, h3, h4, h5, h6⟩ := h; exact ⟨a, b, c, h1, h2, h3, h4, h5, hk _ _ h6⟩
theorem Grd_mono {x : Value} {b : Bool} (ha : A w → A' w) (hb : B w → B' w) (h : Grd x b A B w) : Grd x b A' B' w := by obtain ⟨c, h1, h2, h3⟩ := h; exact ⟨c, h1, fun e => ha (h2 e), fun e => hb (h3 e)⟩
theorem Cnd_mono {x : Value} (ha : A w → A' w) (hb : B w → B' w) (h : Cnd x A B w) : Cnd x A' B' w := by obtain ⟨c, h1, h2, h3⟩ := h; exact ⟨c, h1, fun e => ha (h2 e), fun e => hb (h3 e)⟩
theorem Drw_mono (ha : ∀ w, A w → A' w) (h : Drw A w) : Drw A' w := ha _ h
theorem AllE_mono (ha : A w → A' w) (h : AllE A w) : AllE A' w := fun j => ha (h j)
theorem CH_mono {I : WP} (ha : A w → A' w) (h : CH I A w) : CH I A' w := ⟨h.1, ha h.2⟩
theorem And2_mono (ha : A w → A' w) (hb : B w → B' w) (h : And2 A B w) : And2 A' B' w := ⟨ha h.1, hb h.2⟩
theorem QtC_mono {F F' : WP → WP} (hf : ∀ I, F I w → F' I w) (h : QtC F w) : QtC F' w := by obtain ⟨I, h1, h2⟩ := h; exact ⟨I, h1, hf I h2⟩
theorem QE_mono {I : WP} {R : (Value → WP) → WP} (hk : Le K K') (h : QE I R K w) : QE I R K' w := by obtain ⟨v, h1, h2⟩ := h; exact ⟨v, h1, hk _ _ h2⟩
theorem UN_mono {vs : List Value} {F F' : Value → List Value → WP} (hf : ∀ v r, F v r w → F' v r w) (h : UN vs F w) : UN vs F' w := by
  unfold UN at h ⊢
  split at h
  · exact hf _ _ h
  · exact h
theorem UNe_mono {vs : List Value} (ha : A w → A' w) (h : UNe vs A w) : UNe vs A' w := by
  unfold UNe at h ⊢
  split at h
  · exact ha h
  · exact h
theorem LoopC_mono {init : List Value} {F F' : (List Value → WP) → List Value → WP} (hf : ∀ k vs w, F k vs w → F' k vs w) (h : LoopC init F w) : LoopC init F' w := by
  obtain ⟨I, μ, h1, h2⟩ := h; exact ⟨I, μ, h1, fun vs w hI => hf _ _ _ (h2 vs w hI)⟩
theorem JoinC_mono {b b' : List Value → WP} {F F' : (List Value → WP) → WP} (hb : ∀ vs w, b vs w → b' vs w) (hf : ∀ k w, F k w → F' k w) (h : JoinC b F w) : JoinC b' F' w := fun K hK => hf K w (h K fun vs w' hv => hK vs w' (hb vs w' hv))
end
end Go.Jac
