/- Memory: numbers; frames. -/
import Derived.Test.YtlcbfahjejgjlaaV
import Derived.Test.YtlcbfahjejgjlaaSw
import Derived.Test.YtlcbfahjejgjlaaSn
set_option maxRecDepth 100000
set_option maxHeartbeats 8000000
namespace Go.Proofs.Ytlcbfahjejgjlaa
open Go Go.Jac
section
variable {w0 w : World} {L : List HP} {K : Value → WP}
theorem Within_ok {a n size : Int} (hs : 0 ≤ size ∧ size ≤ 4611686018427387904) (k : K (.bool (decide (0 ≤ a ∧ 0 ≤ n ∧ a ≤ size ∧ n ≤ size - a))) w) : Cl pg 45 #[.int .i64 a, .int .i64 n, .int .i64 size] K w := by
  refine V.num_Within_ok ?_
  unfold V.num_Within
  repeat (simp +decide only [SEM])
  refine ⟨fun h => ?_, fun h => ?_⟩
  · refine ⟨fun h2 => ?_, fun h2 => ?_⟩
    · refine ⟨fun h3 => ?_, fun h3 => ?_⟩
      · rw [w64 (by omega) (by omega)]
        have e : decide (0 ≤ a ∧ 0 ≤ n ∧ a ≤ size ∧ n ≤ size - a) = decide (n ≤ size - a) := by rw [decide_eq_decide]; omega
        rwa [e] at k
      · have e : decide (0 ≤ a ∧ 0 ≤ n ∧ a ≤ size ∧ n ≤ size - a) = false := decide_eq_false (by omega)
        rwa [e] at k
    · have e : decide (0 ≤ a ∧ 0 ≤ n ∧ a ≤ size ∧ n ≤ size - a) = false := decide_eq_false (by omega)
      rwa [e] at k
  · have e : decide (0 ≤ a ∧ 0 ≤ n ∧ a ≤ size ∧ n ≤ size - a) = false := decide_eq_false (by omega)
    rwa [e] at k
theorem Add_ok {a b : Int} (ha : 0 ≤ a ∧ a ≤ 4611686018427387903) (hb : 0 ≤ b ∧ b ≤ 4611686018427387903) (k : K (.tuple #[.int .i64 (a + b), .bool true]) w) : Cl pg 60 #[.int .i64 a, .int .i64 b] K w := by
  refine V.num_Add_ok ?_
  unfold V.num_Add
  repeat (simp +decide only [SEM])
  rw [w64 (by omega) (by omega)]
  by_cases h : 0 < b
  · have e1 : decide (a < a + b) = true := decide_eq_true (by omega)
    have e2 : decide (0 < b) = true := decide_eq_true h
    rw [e1, e2]
    repeat (simp +decide only [SEM])
    exact k
  · have e0 : b = 0 := by omega
    subst e0
    have e1 : decide (a < a + 0) = false := decide_eq_false (by omega)
    rw [e1]
    repeat (simp +decide only [SEM])
    exact k
theorem Pages_ok {a n : Int} (ha : 0 ≤ a ∧ a ≤ 4611686018427387903) (hn : 0 ≤ n ∧ n ≤ 4611686018427387903)
    (k : K (.tuple #[.int .i64 (a / 64), .int .i64 (if n = 0 then 0 else (a + n - 1) / 64 - a / 64 + 1), .bool true]) w) : Cl pg 50 #[.int .i64 a, .int .i64 n] K w := by
  refine V.num_Pages_ok ?_
  unfold V.num_Pages
  refine fn20 (fun _ _ => rfl) (Add_ok ha hn ?_)
  repeat (simp +decide only [SEM])
  refine ⟨fun _ => ?_, fun h => by omega⟩
  refine ⟨fun _ => ?_, fun h => by omega⟩
  have e1 : a.tdiv 64 = a / 64 := Int.tdiv_eq_ediv_of_nonneg ha.1
  have e2 : IntKind.i64.wrap (a / 64) = a / 64 := w64 (by omega) (by omega)
  rw [e1, e2]
  refine ⟨fun h0 => ?_, fun h0 => ?_⟩
  · rw [if_pos h0] at k; exact k
  · rw [if_neg h0] at k
    have e3 : IntKind.i64.wrap (a + n - 1) = a + n - 1 := w64 (by omega) (by omega)
    have e4 : (a + n - 1).tdiv 64 = (a + n - 1) / 64 := Int.tdiv_eq_ediv_of_nonneg (by omega)
    have e5 : IntKind.i64.wrap ((a + n - 1) / 64) = (a + n - 1) / 64 := w64 (by omega) (by omega)
    have e6 : IntKind.i64.wrap ((a + n - 1) / 64 - a / 64) = (a + n - 1) / 64 - a / 64 := w64 (by omega) (by omega)
    have e7 : IntKind.i64.wrap ((a + n - 1) / 64 - a / 64 + 1) = (a + n - 1) / 64 - a / 64 + 1 := w64 (by omega) (by omega)
    rw [e3, e4, e5, e6, e7]
    exact k
theorem Up_ok {n : Int} (hn : 0 ≤ n ∧ n ≤ 4294967296) (k : K (.tuple #[.int .i64 ((n + 63) / 64 * 64), .bool true]) w) : Cl pg 44 #[.int .i64 n, .int .i64 64] K w := by
  refine V.num_Up_ok ?_
  unfold V.num_Up
  refine fn20 (fun _ _ => rfl) (V.num_Down_ok ?_)
  unfold V.num_Down
  repeat (simp +decide only [SEM])
  have e1 : n.tmod 64 = n % 64 := Int.tmod_eq_emod_of_nonneg hn.1
  have e2 : IntKind.i64.wrap (n - n % 64) = n - n % 64 := w64 (by omega) (by omega)
  rw [e1, e2]
  refine ⟨fun h => by omega, fun _ => ⟨fun h => ?_, fun h => ?_⟩⟩
  · have e3 : (n + 63) / 64 * 64 = n - n % 64 := by omega
    rw [e3] at k; exact k
  · refine fn20 (fun _ _ => rfl) (Add_ok (by omega) (by omega) ?_)
    repeat (simp +decide only [SEM])
    have e3 : (n + 63) / 64 * 64 = n - n % 64 + 64 := by omega
    rw [e3] at k; exact k
end
/-- A frame. -/
structure Fr where
  data : Nat → Int
  users : Int
def dc (g : Nat → Int) : List Value := (List.range 64).map fun i => .int .u8 (g i)
def fc (x : Fr) : List Value := dc x.data ++ [.int .i64 x.users]
theorem dc_len (g : Nat → Int) : (dc g).length = 64 := by simp [dc]
theorem fc_len (x : Fr) : (fc x).length = 65 := by simp [fc, dc_len]
theorem dc_get (g : Nat → Int) {i : Nat} (h : i < 64) : (dc g)[i]? = some (.int .u8 (g i)) := by
  unfold dc
  rw [List.getElem?_map, List.getElem?_range h]; rfl
theorem fc_us (x : Fr) : (fc x)[64]? = some (.int .i64 x.users) := by
  unfold fc
  rw [List.getElem?_append_right (by rw [dc_len]; omega), dc_len]; rfl
theorem fc_dt (x : Fr) {i : Nat} (h : i < 64) : (fc x)[i]? = some (.int .u8 (x.data i)) := by
  unfold fc
  rw [List.getElem?_append_left (by rw [dc_len]; exact h)]
  exact dc_get _ h
theorem dc_one (g : Nat → Int) : ∀ v ∈ dc g, v.oneCell' = true := by
  intro v hv
  obtain ⟨i, _, rfl⟩ := List.mem_map.1 hv
  rfl
theorem fc_one (x : Fr) : ∀ v ∈ fc x, v.oneCell' = true := by
  intro v hv
  rcases List.mem_append.1 hv with h | h
  · exact dc_one _ v h
  · rw [List.mem_singleton.1 h]; rfl
def us0 (x : Fr) : Bool := decide (x.users = 0)
/-- How many frames are in use. -/
def usedF (F : List Fr) : Nat := F.countP fun x => !us0 x
structure Pok (cap : Int) (F : List Fr) : Prop where
  mo : 0 ≤ cap ∧ cap ≤ 65536
  len : F.length ≤ cap
  us : ∀ x ∈ F, 0 ≤ x.users ∧ x.users ≤ 1000000
/-- The pool. -/
def Pl (b : Nat) (cap : Int) (F : List Fr) : HP := ex fun v => sat [cel b 86 [v, .int .i64 cap, .int .i64 (usedF F)], Rw 98 65 v F.length (F.flatMap fc)]
section
variable {w0 w : World} {L : List HP} {K : Value → WP} {b : Nat} {cap : Int} {F : List Fr} {v : Value} {u : Int}
theorem Pl.out (d : D w0 (Pl b cap F :: L) w) : ∃ v, D w0 (cel b 86 [v, .int .i64 cap, .int .i64 (usedF F)] :: Rw 98 65 v F.length (F.flatMap fc) :: L) w := by
  obtain ⟨v, d⟩ := d.ex
  exact ⟨v, d.opens⟩
theorem Pl.mk (d : D w0 (cel b 86 [v, .int .i64 cap, .int .i64 (usedF F)] :: Rw 98 65 v F.length (F.flatMap fc) :: L) w) : D w0 (Pl b cap F :: L) w :=
  D.mk_ex (A := fun v => sat [cel b 86 [v, .int .i64 cap, .int .i64 (usedF F)], Rw 98 65 v F.length (F.flatMap fc)]) v (D.close (M := [_, _]) d)
theorem usedF_set {F : List Fr} {i : Nat} (hi : i < F.length) (y : Fr) : usedF (F.set i y) + (if us0 F[i] then 0 else 1) = usedF F + (if us0 y then 0 else 1) := by
  induction F generalizing i with
  | nil => simp at hi
  | cons x r ih =>
    unfold usedF at *
    cases i with
    | zero =>
      simp only [List.set_cons_zero, List.countP_cons, List.getElem_cons_zero]
      by_cases hx : us0 x = true <;> by_cases hy : us0 y = true <;> simp [hx, hy]
    | succ i =>
      simp only [List.set_cons_succ, List.countP_cons, List.getElem_cons_succ]
      have := ih (i := i) (by simpa using hi)
      omega
theorem usedF_app (F : List Fr) (y : Fr) : usedF (F ++ [y]) = usedF F + (if us0 y then 0 else 1) := by
  unfold usedF
  rw [List.countP_append, List.countP_singleton]
  cases us0 y <;> simp
theorem usedF_le (F : List Fr) : usedF F ≤ F.length := List.countP_le_length
theorem stp {es elem m o n c : Nat} {α : Type} {f : α → List Value} {S : List α} {bb : Nat} {v : Value} (d : D w0 (Rw elem es (.slice (some ⟨bb, 0, none⟩) S.length c) S.length (S.flatMap f) :: L) w) (hn : n < S.length) (y : α) (hf : ∀ x, (f x).length = es) (hm : v.cells.size = m) (ho : o + m ≤ es)
    (hc : ∀ x ∈ v.cells.toList, x.oneCell' = true) (hy : splice (f S[n]) o v.cells.toList = f y) (k : ∀ w', D w0 (Rw elem es (.slice (some ⟨bb, 0, none⟩) S.length c) (S.set n y).length ((S.set n y).flatMap f) :: L) w' → K undef w') :
    St m (.pointer (some ⟨bb, n * es + o, none⟩)) v K w := by
  obtain ⟨b', h1, h2⟩ := rw_set d hn y (.h _) hf hm ho hc hy
  obtain ⟨p, len, cap, k', n', e1, e2, _, _, hk⟩ := h1 (fun v _ => v = .pointer (some ⟨b', n * es, none⟩)) rfl
  injection e1 with e1
  injection e1 with e1
  injection e2 with _ e2
  subst e1 e2
  rw [add_of] at hk
  injection hk with hk
  injection hk with hk
  injection hk with hk
  subst hk
  exact h2 K k
theorem ldp1 {es elem n c j : Nat} {α : Type} {f : α → List Value} {S : List α} {bb : Nat} {v : Value} (d : D w0 (Rw elem es (.slice (some ⟨bb, 0, none⟩) S.length c) S.length (S.flatMap f) :: L) w) (hf : ∀ x, (f x).length = es) (hn : n < S.length) (hv : (f S[n])[j]? = some v) (k : K v w) :
    Ld1 (.pointer (some ⟨bb, n * es + j, none⟩)) K w := by
  obtain ⟨cs, g, hc⟩ := rw_cells d (.h _) hf hn
  exact ld1 g (hc j v hv) k
/-- A frame that is in use. -/
theorem find_ok {i : Nat} (hi : i < F.length) (hu : F[i].users ≠ 0) (d : D w0 (cel b 86 [v, .int .i64 cap, .int .i64 u] :: Rw 98 65 v F.length (F.flatMap fc) :: L) w)
    (k : ∀ bb c w', v = .slice (some ⟨bb, 0, none⟩) F.length c → D w0 (cel b 86 [v, .int .i64 cap, .int .i64 u] :: Rw 98 65 v F.length (F.flatMap fc) :: L) w' → K (.pointer (some ⟨bb, i * 65, none⟩)) w') :
    Cl pg 52 #[.pointer (some ⟨b, 0, none⟩), .int .i64 i] K w := by
  refine V.pages_Pool_find_ok ?_
  unfold V.pages_Pool_find
  obtain ⟨bb, c, rfl⟩ := rw_ptr d (.t _ _ (.h _)) (by omega)
  repeat (simp +decide only [SEM])
  refine ⟨fun _ => ?_, fun h => by omega⟩
  repeat (first | (simp +decide only [SEM]) | (apply ldm d; (focus ((repeat (first | exact .h _ | refine .t _ _ ?_)); done)); (focus rfl)))
  refine ⟨fun _ => ?_, fun h => by omega⟩
  repeat (first | (simp +decide only [SEM]) | (apply ldm d; (focus ((repeat (first | exact .h _ | refine .t _ _ ?_)); done)); (focus rfl)) | (focus (apply rw_fld d; (focus ((repeat (first | exact .h _ | refine .t _ _ ?_)); done)); (focus exact fun _ => rfl); (focus rfl); rotate_left; (focus (first | omega | (simp; done) | (simp; omega))))))
  refine ⟨fun h => absurd h hu, fun _ => ?_⟩
  repeat (apply ldm d; (focus ((repeat (first | exact .h _ | refine .t _ _ ?_)); done)); (focus rfl))
  refine ia_ok (by omega) (by omega) ?_
  rw [Nat.zero_add, Int.toNat_natCast]
  exact k bb c w rfl d
theorem Room_ok (hc : 0 ≤ cap ∧ cap ≤ 65536) (hu : usedF F ≤ 65536) (d : D w0 (Pl b cap F :: L) w) (k : ∀ w', D w0 (Pl b cap F :: L) w' → K (.int .i64 (cap - usedF F)) w') : Cl pg 37 #[.pointer (some ⟨b, 0, none⟩)] K w := by
  refine V.pages_Pool_Room_ok ?_
  unfold V.pages_Pool_Room
  obtain ⟨v, d⟩ := Pl.out d
  repeat (first | refine drw d fun w d => ?_ | (simp +decide only [SEM]) | refine qt d ?_ | refine qe_nil ?_ | (apply qlm; (focus ((repeat (first | exact .h _ | refine .t _ _ ?_)); done)); (focus rfl)))
  rw [w64 (by omega) (by omega)]
  exact k _ (Pl.mk d)
theorem New_ok (hc : 0 ≤ cap ∧ cap ≤ 65536) (d : D w0 L w) (k : ∀ b w', D w0 (Pl b cap [] :: L) w' → K (.pointer (some ⟨b, 0, none⟩)) w') : Cl pg 24 #[.int .i64 cap] K w := by
  refine V.pages_New_ok ?_
  unfold V.pages_New
  repeat (simp +decide only [SEM])
  refine ⟨fun _ => ?_, fun h => by omega⟩
  refine ⟨fun h => by omega, fun _ => ?_⟩
  repeat (first | (simp +decide only [SEM]) | (((repeat (refine bld_c rfl rfl (by simp) ?_; simp only [List.set_cons_zero, List.set_cons_succ])); refine bld_n ?_)) | (refine d_new _ d fun bn w d => ?_))
  refine k _ _ (Pl.mk (v := .slice none 0 0) ?_)
  exact D.swap ⟨Rw.nil _ _ d.1, d.2⟩
theorem New_no (hc : ¬ (0 ≤ cap ∧ cap ≤ 65536)) (d : D w0 L w) (k : ∀ w', D w0 L w' → K (.pointer none) w') : Cl pg 24 #[.int .i64 cap] K w := by
  refine V.pages_New_ok ?_
  unfold V.pages_New
  repeat (simp +decide only [SEM])
  refine ⟨fun _ => ⟨fun h => k _ d, fun h => by omega⟩, fun h => k _ d⟩
theorem Users_ok {i : Nat} (hi : i < F.length) (hu : F[i].users ≠ 0) (d : D w0 (Pl b cap F :: L) w) (k : ∀ w', D w0 (Pl b cap F :: L) w' → K (.int .i64 F[i].users) w') : Cl pg 47 #[.pointer (some ⟨b, 0, none⟩), .int .i64 i] K w := by
  refine V.pages_Pool_Users_ok ?_
  unfold V.pages_Pool_Users
  obtain ⟨v, d⟩ := Pl.out d
  refine fn20 (fun _ _ => rfl) (find_ok hi hu d fun bb c w hv d => ?_)
  subst hv
  repeat (simp +decide only [SEM])
  refine ldp1 d.swap fc_len hi (fc_us _) ?_
  exact k w (Pl.mk d)
theorem us_set {x : Fr} {n : Int} : splice (fc x) 64 [.int .i64 n] = fc { x with users := n } := by
  unfold fc
  simp only [splice]
  rw [List.set_append_right _ _ (by rw [dc_len]; omega), dc_len]
  rfl
theorem Share_ok {i : Nat} (hi : i < F.length) (hu : F[i].users ≠ 0) (hb : 0 ≤ F[i].users ∧ F[i].users ≤ 1000000) (d : D w0 (Pl b cap F :: L) w)
    (k : ∀ w', D w0 (Pl b cap (F.set i (⟨F[i].data, F[i].users + 1⟩ : Fr)) :: L) w' → K (.int .i64 0) w') : Cl pg 34 #[.pointer (some ⟨b, 0, none⟩), .int .i64 i] K w := by
  refine V.pages_Pool_Share_ok ?_
  unfold V.pages_Pool_Share
  obtain ⟨v, d⟩ := Pl.out d
  refine fn20 (fun _ _ => rfl) (find_ok hi hu d fun bb c w hv d => ?_)
  subst hv
  repeat (simp +decide only [SEM])
  refine ldp1 d.swap fc_len hi (fc_us _) ?_
  repeat (simp +decide only [SEM])
  rw [w64 (by omega) (by omega)]
  refine stp d.swap hi (⟨F[i].data, F[i].users + 1⟩ : Fr) fc_len rfl (by omega) (ones rfl) us_set fun w d => ?_
  have e : usedF (F.set i (⟨F[i].data, F[i].users + 1⟩ : Fr)) = usedF F := by
    have := usedF_set hi (⟨F[i].data, F[i].users + 1⟩ : Fr)
    have h1 : us0 F[i] = false := decide_eq_false hu
    have h2 : us0 (⟨F[i].data, F[i].users + 1⟩ : Fr) = false := decide_eq_false (by simp only; omega)
    rw [h1, h2] at this
    simpa using this
  refine k w (Pl.mk (v := .slice (some ⟨bb, 0, none⟩) F.length c) ?_)
  rw [e]
  exact d.swap
theorem Release_ok {i : Nat} (hi : i < F.length) (hu : F[i].users ≠ 0) (hb : 0 ≤ F[i].users ∧ F[i].users ≤ 1000000) (hl : F.length ≤ 65536) (d : D w0 (Pl b cap F :: L) w)
    (k : ∀ w', D w0 (Pl b cap (F.set i (⟨F[i].data, F[i].users - 1⟩ : Fr)) :: L) w' → K (.int .i64 0) w') : Cl pg 54 #[.pointer (some ⟨b, 0, none⟩), .int .i64 i] K w := by
  refine V.pages_Pool_Release_ok ?_
  unfold V.pages_Pool_Release
  obtain ⟨v, d⟩ := Pl.out d
  refine fn20 (fun _ _ => rfl) (find_ok hi hu d fun bb c w hv d => ?_)
  subst hv
  repeat (simp +decide only [SEM])
  refine ldp1 d.swap fc_len hi (fc_us _) ?_
  repeat (simp +decide only [SEM])
  rw [w64 (by omega) (by omega)]
  refine stp d.swap hi (⟨F[i].data, F[i].users - 1⟩ : Fr) fc_len rfl (by omega) (ones rfl) us_set fun w d => ?_
  have hs := usedF_set hi (⟨F[i].data, F[i].users - 1⟩ : Fr)
  have h1 : us0 F[i] = false := decide_eq_false hu
  rw [h1] at hs
  have hle := usedF_le F
  have hi2 : i < (F.set i (⟨F[i].data, F[i].users - 1⟩ : Fr)).length := by simpa using hi
  have d : D w0 (Rw 98 65 (.slice (some ⟨bb, 0, none⟩) (F.set i (⟨F[i].data, F[i].users - 1⟩ : Fr)).length c) (F.set i (⟨F[i].data, F[i].users - 1⟩ : Fr)).length ((F.set i (⟨F[i].data, F[i].users - 1⟩ : Fr)).flatMap fc) :: cel b 86 [.slice (some ⟨bb, 0, none⟩) F.length c, .int .i64 cap, .int .i64 (usedF F)] :: L) w := by
    rw [List.length_set] at d ⊢; exact d
  repeat (simp +decide only [SEM])
  refine ldp1 d fc_len hi2 (fc_us _) ?_
  rw [List.getElem_set_self]
  repeat (simp +decide only [SEM])
  refine ⟨fun h => ?_, fun h => ?_⟩
  · have h2 : us0 (⟨F[i].data, F[i].users - 1⟩ : Fr) = true := decide_eq_true h
    rw [h2] at hs
    simp only [if_true, Bool.false_eq_true, if_false, Nat.add_zero] at hs
    repeat (first | (simp +decide only [SEM]) | (apply ldm d; (focus ((repeat (first | exact .h _ | refine .t _ _ ?_)); done)); (focus rfl)) | (apply stm d; (focus ((repeat (first | exact .h _ | apply Rp.t)); done)); (focus rfl); (focus simp); (focus exact ones rfl); intro w d; simp only [SPL] at d))
    rw [show IntKind.i64.wrap ((usedF F : Int) - 1) = (usedF (F.set i (⟨F[i].data, F[i].users - 1⟩ : Fr)) : Int) from by rw [w64 (by omega) (by omega)]; omega] at d
    refine k w (Pl.mk (v := .slice (some ⟨bb, 0, none⟩) F.length c) ?_)
    rw [List.length_set] at d ⊢
    exact d.swap
  · have h2 : us0 (⟨F[i].data, F[i].users - 1⟩ : Fr) = false := decide_eq_false h
    rw [h2] at hs
    refine k w (Pl.mk (v := .slice (some ⟨bb, 0, none⟩) F.length c) ?_)
    have e : usedF (F.set i (⟨F[i].data, F[i].users - 1⟩ : Fr)) = usedF F := by simpa using hs
    rw [List.length_set] at d ⊢
    rw [e]
    exact d.swap
/-- The first frame that is free, or one more. -/
def fnew : Fr := ⟨fun _ => 0, 1⟩
def gF (F : List Fr) : Nat := F.findIdx us0
def alF (F : List Fr) : List Fr := if gF F < F.length then F.set (gF F) fnew else F ++ [fnew]
theorem gF_le (F : List Fr) : gF F ≤ F.length := List.findIdx_le_length
theorem gF_lt (F : List Fr) : gF F < (alF F).length := by
  unfold alF
  have := gF_le F
  split
  · simpa using ‹_›
  · simp; omega
theorem alF_used (F : List Fr) : usedF (alF F) = usedF F + 1 := by
  unfold alF
  split
  · rename_i h
    have := usedF_set h fnew
    have h1 : us0 F[gF F] = true := List.findIdx_getElem (w := h)
    have h2 : us0 fnew = false := by decide
    rw [h1, h2] at this
    simpa using this
  · rw [usedF_app]
    have h2 : us0 fnew = false := by decide
    rw [h2]; rfl
/-- All frames are in use where none is free. -/
theorem full_used (F : List Fr) (h : ¬ gF F < F.length) : usedF F = F.length := by
  unfold usedF
  rw [List.countP_eq_length]
  intro x hx
  have h1 : ∀ y ∈ F, us0 y ≠ true := by
    intro y hy hu
    exact h (List.findIdx_lt_length.2 ⟨y, hy, hu⟩)
  simpa using h1 x hx
def z65 : List Value := [.int .u8 0, .int .u8 0, .int .u8 0, .int .u8 0, .int .u8 0, .int .u8 0, .int .u8 0, .int .u8 0, .int .u8 0, .int .u8 0, .int .u8 0, .int .u8 0, .int .u8 0, .int .u8 0, .int .u8 0, .int .u8 0, .int .u8 0, .int .u8 0, .int .u8 0, .int .u8 0, .int .u8 0, .int .u8 0, .int .u8 0, .int .u8 0, .int .u8 0, .int .u8 0, .int .u8 0, .int .u8 0, .int .u8 0, .int .u8 0, .int .u8 0, .int .u8 0, .int .u8 0, .int .u8 0, .int .u8 0, .int .u8 0, .int .u8 0, .int .u8 0, .int .u8 0, .int .u8 0, .int .u8 0, .int .u8 0, .int .u8 0, .int .u8 0, .int .u8 0, .int .u8 0, .int .u8 0, .int .u8 0, .int .u8 0, .int .u8 0, .int .u8 0, .int .u8 0, .int .u8 0, .int .u8 0, .int .u8 0, .int .u8 0, .int .u8 0, .int .u8 0, .int .u8 0, .int .u8 0, .int .u8 0, .int .u8 0, .int .u8 0, .int .u8 0, .int .i64 0]
def n65 : List Value := [.int .u8 0, .int .u8 0, .int .u8 0, .int .u8 0, .int .u8 0, .int .u8 0, .int .u8 0, .int .u8 0, .int .u8 0, .int .u8 0, .int .u8 0, .int .u8 0, .int .u8 0, .int .u8 0, .int .u8 0, .int .u8 0, .int .u8 0, .int .u8 0, .int .u8 0, .int .u8 0, .int .u8 0, .int .u8 0, .int .u8 0, .int .u8 0, .int .u8 0, .int .u8 0, .int .u8 0, .int .u8 0, .int .u8 0, .int .u8 0, .int .u8 0, .int .u8 0, .int .u8 0, .int .u8 0, .int .u8 0, .int .u8 0, .int .u8 0, .int .u8 0, .int .u8 0, .int .u8 0, .int .u8 0, .int .u8 0, .int .u8 0, .int .u8 0, .int .u8 0, .int .u8 0, .int .u8 0, .int .u8 0, .int .u8 0, .int .u8 0, .int .u8 0, .int .u8 0, .int .u8 0, .int .u8 0, .int .u8 0, .int .u8 0, .int .u8 0, .int .u8 0, .int .u8 0, .int .u8 0, .int .u8 0, .int .u8 0, .int .u8 0, .int .u8 0, .int .i64 1]
theorem fc_z : fc ⟨fun _ => 0, 0⟩ = z65 := by kernel_rfl
theorem fc_n : fc fnew = n65 := by kernel_rfl
theorem Alloc_ok (ok : Pok cap F) (hr : (usedF F : Int) < cap) (d : D w0 (Pl b cap F :: L) w) (k : ∀ w', D w0 (Pl b cap (alF F) :: L) w' → K (.tuple #[.int .i64 (gF F), .int .i64 0]) w') : Cl pg 49 #[.pointer (some ⟨b, 0, none⟩)] K w := by
  refine V.pages_Pool_Alloc_ok ?_
  unfold V.pages_Pool_Alloc
  obtain ⟨v, d⟩ := Pl.out d
  have hmo := ok.mo
  have hln := ok.len
  repeat (first | refine drw d fun w d => ?_ | (simp +decide only [SEM]) | refine qt d ?_ | refine qe_nil ?_ | (apply qlm; (focus ((repeat (first | exact .h _ | refine .t _ _ ?_)); done)); (focus rfl)))
  refine ⟨fun h => by omega, fun _ => ?_⟩
  repeat (apply ldm d; (focus ((repeat (first | exact .h _ | refine .t _ _ ?_)); done)); (focus rfl))
  refine fn20 (fun _ _ => rfl) (V.slices_IndexFunc_frame_frame_ok ?_)
  unfold V.slices_IndexFunc_frame_frame
  refine gidxf_ok (LD := LdN 65) (enc := fun x => .agg (fc x).toArray) (p := us0) fc_len (by omega) (fun b o x t cs w K g hc k => hldN b o x t cs w K fc_len g hc k) d.swap (fun x w K hx d k => ?_) fun w d => ?_
  · refine fn10 (fun _ _ => rfl) (V.pages_Pool_Alloc_c1_ok ?_)
    unfold V.pages_Pool_Alloc_c1
    simp only [cells_agg]
    refine d_new (fc x) d fun b w d => ?_
    repeat (first | (simp +decide only [SEM]) | (apply ldm d; (focus ((repeat (first | exact .h _ | refine .t _ _ ?_)); done)); (focus rfl)))
    exact k _ d.tail
  · intro K' hK
    have hgl := gF_le F
    have fin : ∀ (v : Value) (w : World) (F1 : List Fr) (h1 : gF F < F1.length), usedF F1 = usedF F → us0 F1[gF F] = true → F1.set (gF F) fnew = alF F → D w0 (Rw 98 65 v F1.length (F1.flatMap fc) :: cel b 86 [v, .int .i64 cap, .int .i64 (usedF F)] :: L) w → K' [.int .i64 (gF F)] w := by
      intro v w F1 h1 hu hz hs d
      refine hK _ _ ?_
      intro _
      simp only [UN]
      clear hK
      repeat (first | (simp +decide only [SEM]) | (apply ldm d; (focus ((repeat (first | exact .h _ | refine .t _ _ ?_)); done)); (focus rfl)) | (((repeat (refine bld_c rfl rfl (by simp) ?_; simp only [List.set_cons_zero, List.set_cons_succ])); refine bld_n ?_)))
      have ho : ∀ u ∈ fc fnew, u.oneCell' = true := fc_one _
      have hfn := fc_n
      refine rw_st (S := F1) (f := fc) d h1 fnew (.h _) fc_len hfn.symm ho fun w d => ?_
      rw [hs] at d
      have d := d.swap
      repeat (first | (simp +decide only [SEM]) | (apply ldm d; (focus ((repeat (first | exact .h _ | refine .t _ _ ?_)); done)); (focus rfl)) | (apply stm d; (focus ((repeat (first | exact .h _ | apply Rp.t)); done)); (focus rfl); (focus simp); (focus exact ones rfl); intro w d; simp only [SPL] at d))
      have hau := alF_used F
      have hule := usedF_le F
      rw [show IntKind.i64.wrap ((usedF F : Int) + 1) = (usedF (alF F) : Int) from by rw [w64 (by omega) (by omega)]; omega] at d
      exact k _ (Pl.mk (v := v) d)
    clear hK
    unfold fidx
    by_cases h : gF F < F.length
    · have h' : List.findIdx us0 F < F.length := h
      rw [if_pos h']
      repeat (simp +decide only [SEM])
      refine ⟨fun h => by omega, fun _ => ?_⟩
      exact fin v w F h rfl (List.findIdx_getElem (w := h)) (by unfold alF; rw [if_pos h]) d
    · have h' : ¬ List.findIdx us0 F < F.length := h
      rw [if_neg h']
      have hg : gF F = F.length := by omega
      obtain ⟨q, c, rfl, -⟩ := Rw.shape d.1
      repeat (first | (simp +decide only [SEM]) | (apply ldm d; (focus ((repeat (first | exact .h _ | refine .t _ _ ?_)); done)); (focus rfl)) | (((repeat (refine bld_c rfl rfl (by simp) ?_; simp only [List.set_cons_zero, List.set_cons_succ])); refine bld_n ?_)) | refine bsl1 (by first | rfl | (simp only [cells_agg, cells_int, cells_bool, cells_ptr, cells_sl, cells_map, cells_fn, List.drop_succ_cons, List.drop_zero, List.take_succ_cons, List.take_zero, Nat.zero_add, Nat.reduceAdd, Int.toNat_natCast, Int.toNat_zero]; rfl)) rfl d (by decide) (by decide) fun bn w d => ?_)
      refine d_app (m := 1) d.swap (src_of (gc1 d.swap) rfl (ones rfl) 1) rfl (by omega) (by omega) (by omega) (ones rfl) fun sv' w d => ?_
      have d : D w0 (Rw 98 65 sv' (F ++ [(⟨fun _ => 0, 0⟩ : Fr)]).length ((F ++ [(⟨fun _ => 0, 0⟩ : Fr)]).flatMap fc) :: cel b 86 [.slice q F.length c, .int .i64 cap, .int .i64 (usedF F)] :: L) w := by
        rw [List.length_append, List.flatMap_append, List.flatMap_singleton, fc_z]
        exact D.tail2 d
      obtain ⟨q2, c2, rfl, -⟩ := Rw.shape d.1
      repeat (first | (simp +decide only [SEM]) | (apply stm d; (focus ((repeat (first | exact .h _ | apply Rp.t)); done)); (focus rfl); (focus simp); (focus exact ones rfl); intro w d; simp only [SPL] at d))
      rw [← hg]
      refine fin _ w (F ++ [(⟨fun _ => 0, 0⟩ : Fr)]) (by simp; omega) ?_ ?_ ?_ d
      · rw [usedF_app]; rfl
      · rw [List.getElem_append_right (by omega)]; simp [us0]
      · unfold alF
        rw [if_neg h, hg, List.set_append_right _ _ (by omega)]
        simp
end
end Go.Proofs.Ytlcbfahjejgjlaa
