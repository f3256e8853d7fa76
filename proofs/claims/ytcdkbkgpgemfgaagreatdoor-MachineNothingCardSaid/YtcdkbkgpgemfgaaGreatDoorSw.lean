/- One element put into a row. -/
import Derived.Test.YtcdkbkgpgemfgaaGreatDoorSn
import Derived.Lib.AppendZerosOnto
import Derived.Lib.Overlaps
import Derived.Lib.MinMax
import Derived.Laws.Slices
set_option maxRecDepth 100000
set_option maxHeartbeats 4000000
namespace Go.Jac
open Go
section
variable {P : Program} {w0 w : World} {L : List HP} {K : Value → WP} {elem es bytes n : Nat} {t dT sT ty : TypeId} {zero : Array Value} {sv : Value} {cs news X Z : List Value} {b o bs : Nat} {inf : TypeInfo} {z : Value}
theorem run_copy_es {p a : Addr} {dLen dCap sLen sCap : Nat} (hu : P.underlying dT = some (.slice elem)) (hi : P.info? elem = some inf) (hn : cs.length = Nat.min sLen dLen * inf.size)
    (hsrc : ∀ j v, cs[j]? = some v → w.cell? (a.add j) = some v) (hst : Storable w p cs 0) :
    (Builtin.copy_ #[dT, sT] ty #[.slice (some p) dLen dCap, .slice (some a) sLen sCap]).run P w = .ok (goInt (Nat.min sLen dLen)) (stCells p cs 0 w) := by
  have hl := run_firstCells_some (P := P) (w := w) inf.size (Nat.min sLen dLen) a sLen sCap cs hn hsrc
  simp [Builtin.copy_, run_underlying hu, Builtin.lenOf, run_sizeOf hi, hl, run_stCells _ _ _ hst]
/-- Cells copied into a block. -/
theorem cp_ok {a : Addr} {dLen dCap sLen sCap : Nat} (hu : P.underlying dT = some (.slice elem)) (hi : P.info? elem = some inf) (d : D w0 (cel b t cs :: L) w) (hn : news.length = Nat.min sLen dLen * inf.size)
    (hsrc : ∀ j v, news[j]? = some v → w.cell? (a.add j) = some v) (hl : o + news.length ≤ cs.length) (h1 : ∀ v ∈ news, v.oneCell' = true)
    (k : ∀ v w', D w0 (cel b t (splice cs o news) :: L) w' → K v w') : Ex P (Builtin.copy_ #[dT, sT] ty #[.slice (some ⟨b, o, none⟩) dLen dCap, .slice (some a) sLen sCap]) K w := by
  have g := d.get
  have hst : Storable w ⟨b, o, none⟩ news 0 := by
    intro j x hx
    have hj := (List.getElem?_eq_some_iff.1 hx).1
    refine ⟨h1 x (List.mem_of_getElem? hx), ?_, ?_⟩
    · rw [add_of, cell_of g]
      exact ⟨_, List.getElem?_eq_getElem (by omega)⟩
    · rw [add_of]; exact free_of g _
  refine ⟨_, _, run_copy_es hu hi hn hsrc hst, k _ _ ⟨?_, d.2.trans (Kp.stCells ⟨b, o, none⟩ news 0 w)⟩⟩
  rw [hw_stCells _ cs 0 w g]
  exact d.1.set
theorem cap_ok {q : Option Addr} {m c : Nat} (hu : P.underlying t = some (.slice elem)) (k : K (.int .i64 c) w) : Ex P (Builtin.cap_ #[t] ty #[.slice q m c]) K w :=
  ⟨_, w, by simp [Builtin.cap_, run_underlying hu]; rfl, k⟩
theorem min2_ok {ts : Array TypeId} {x y : Int} {k k' : IntKind} (kk : K (.int k (min x y)) w) : Ex P (Builtin.min_ ts t #[.int k x, .int k' y]) K w := ⟨_, w, Lib.run_min_ints w ts t k k' x y, kk⟩
theorem max2_ok {ts : Array TypeId} {x y : Int} {k k' : IntKind} (kk : K (.int k (max x y)) w) : Ex P (Builtin.max_ ts t #[.int k x, .int k' y]) K w := ⟨_, w, Lib.run_max_ints w ts t k k' x y, kk⟩
def GIns (P : Program) (t tn elem es bytes : Nat) (zero : Array Value) (fo fr : FuncId) (a0 a1 a2 : Value) (KR : Value → WP) : WP :=
  SlC es a0 (some a1) none fun _ =>
  LenS a2 fun v14 =>
  BinI .eql v14 (.int .i64 0) fun v16 =>
  Cnd v16 (KR a0)
  (LenS a0 fun v19 =>
  BinI .eql a1 v19 fun v22 =>
  Cnd v22 (AppC elem es bytes zero a0 a2 fun v25 =>
  KR v25)
  (BinI .add v19 v14 fun v28 =>
  Ex P (Builtin.cap_ #[t] tn #[a0]) fun v30 =>
  BinI .gtr v28 v30 fun v31 =>
  Cnd v31 (SlC es a0 none (some a1) fun v34 =>
  BinI .add v19 v14 fun v37 =>
  BinI .sub v37 a1 fun v39 =>
  Ex P (Builtin.append_ #[t, tn] t #[v34, v39]) fun v40 =>
  SlC es v40 (some a1) none fun v43 =>
  Ex P (Builtin.copy_ #[t, t] tn #[v43, a2]) fun _ =>
  Drw <| QtC fun I =>
  QE I (fun KK => BinI .add a1 v14 fun v49 =>
  KK v49) fun v49_1 =>
  QE I (fun KK => SlC es v40 (some v49_1) none fun v50 =>
  KK v50) fun v50_1 =>
  QE I (fun KK => SlC es a0 (some a1) none fun v53 =>
  KK v53) fun v53_1 =>
  Ex P (Builtin.copy_ #[t, t] tn #[v50_1, v53_1]) fun _ =>
  KR v40)
  (BinI .add v19 v14 fun v59 =>
  SlC es a0 none (some v59) fun v60 =>
  BinI .add a1 v14 fun v65 =>
  SlC es v60 (some v65) none fun v66 =>
  FnV P (.func (.func fo) #[] #[]) #[a2, v66] fun v67 =>
  Un .not v67 fun v68 =>
  Cnd v68 (Drw <| QtC fun I =>
  QE I (fun KK => BinI .add a1 v14 fun v72 =>
  KK v72) fun v72_1 =>
  QE I (fun KK => SlC es v60 (some v72_1) none fun v73 =>
  KK v73) fun v73_1 =>
  QE I (fun KK => SlC es v60 (some a1) none fun v76 =>
  KK v76) fun v76_1 =>
  Ex P (Builtin.copy_ #[t, t] tn #[v73_1, v76_1]) fun _ =>
  SlC es v60 (some a1) none fun v80 =>
  Ex P (Builtin.copy_ #[t, t] tn #[v80, a2]) fun _ =>
  KR v60)
  (SlC es v60 (some v19) none fun v86 =>
  Ex P (Builtin.copy_ #[t, t] tn #[v86, a2]) fun _ =>
  SlC es v60 (some a1) none fun v91 =>
  FnV P (.func (.func fr) #[] #[]) #[v91, v14] fun _ =>
  KR v60))))
theorem splice_ins {X news Z J : List Value} (m : Nat) (h : m = X.length) : splice (splice (X ++ J) m news) (m + news.length) Z = if news.length + Z.length ≤ J.length then X ++ news ++ Z ++ J.drop (news.length + Z.length) else splice (splice (X ++ J) m news) (m + news.length) Z := by
  split
  · rename_i hl
    subst h
    rw [splice_eq _ _ (X ++ J) (by rw [List.length_append]; omega), List.take_left, List.drop_append, List.drop_eq_nil_of_le (by omega), List.nil_append, Nat.add_sub_cancel_left]
    rw [splice_eq _ _ _ (by simp only [List.length_append, List.length_drop]; omega)]
    rw [show X.length + news.length = (X ++ news).length from List.length_append.symm, List.take_left, List.drop_append, List.drop_eq_nil_of_le (by omega), List.nil_append, Nat.add_sub_cancel_left, List.drop_drop]
  · rfl
theorem gins_ok {tn fo fr i c1 tb : Nat} {kn : IntKind} (ht : P.underlying t = some (.slice elem)) (htn : P.underlying tn = some (.int kn)) (hi : P.info? elem = some inf) (hes : inf.size = es) (hby : inf.bytes = bytes) (hiz : inf.zero = some z) (hz : z.cells = zero) (hzs : zero.size = es) (he0 : 0 < es)
    (hov : ∀ (a b : Addr) (la ca lb cb : Nat) (w : World), (Extern.SlicesOverlaps.overlaps #[t, t] #[tb] #[.slice (some a) la ca, .slice (some b) lb cb]).run P w = .ok (.bool false) w → (callFunc fo #[.slice (some a) la ca, .slice (some b) lb cb]).run P w = .ok (.value (.bool false)) w)
    (hone : ∀ u ∈ X ++ Z, u.oneCell' = true) (h1 : ∀ u ∈ news, u.oneCell' = true) (hX : X.length = i * es) (hZ : Z.length = (n - i) * es) (hin : i ≤ n) (hnw : news.length = es) (h64 : n ≤ 65536) (hb64 : bytes ≤ 1024)
    (d : D w0 (Rw elem es sv n (X ++ Z) :: cel bs elem news :: L) w) (k : ∀ sv' w', D w0 (Rw elem es sv' (n + 1) (X ++ news ++ Z) :: cel bs elem news :: L) w' → K sv' w') :
    GIns P t tn elem es bytes zero fo fr sv (.int .i64 i) (.slice (some ⟨bs, 0, none⟩) 1 c1) K w := by
  unfold GIns
  obtain ⟨q, c, rfl, hcap⟩ := Rw.shape d.1
  refine slc_ok i n rfl ⟨_, rfl, hin⟩ rfl ?_
  rw [LenS_s, BinI_eql, Cnd_b]
  refine ⟨fun h => by simp at h, fun _ => ?_⟩
  rw [LenS_s, BinI_eql, Cnd_b]
  have hbig : (n + 1) * bytes ≤ 140737488355328 := Nat.le_trans (Nat.mul_le_mul (show n + 1 ≤ 65537 by omega) hb64) (by decide)
  refine ⟨fun h => ?_, fun h => ?_⟩
  · have h := of_decide_eq_true h
    have e : i = n := by omega
    subst e
    have hZ0 : Z = [] := List.length_eq_zero_iff.1 (by rw [hZ]; simp)
    subst hZ0
    simp only [List.append_nil] at d k
    exact d_app (m := 1) d (src_of (gc1 d) (by rw [hnw, Nat.one_mul]) h1 c1) hzs (by omega) hbig (by omega) h1 fun sv' w d => k _ _ d
  · have h := of_decide_eq_false h
    have hlt : i < n := by omega
    obtain ⟨b, cap, junk, e, hcap', hl2, s⟩ := Rw.block d.1 (by omega)
    cases e
    have d1 : D w0 (cel b elem (X ++ Z ++ junk) :: cel bs elem news :: L) w := ⟨s, d.2⟩
    have g := d1.get
    have e1 : IntKind.i64.wrap ((n : Int) + ((1 : Nat) : Int)) = ((n + 1 : Nat) : Int) := by rw [w64 (by omega) (by omega)]; omega
    have e3 : IntKind.i64.wrap ((i : Int) + ((1 : Nat) : Int)) = ((i + 1 : Nat) : Int) := by rw [w64 (by omega) (by omega)]; omega
    have e0 : (if c = 0 then (some ⟨b, 0, none⟩ : Option Addr) else (some ⟨b, 0, none⟩ : Option Addr).map (·.add (0 * es))) = some ⟨b, 0, none⟩ := by
      split
      · rfl
      · simp [add_of]
    have hmul : (i + 1) * es = i * es + es := Nat.succ_mul i es
    have hXZ : X.length + Z.length = n * es := by rw [hX, hZ, ← Nat.add_mul]; congr 1; omega
    have h1Z : ∀ u ∈ Z, u.oneCell' = true := fun u hu => hone u (List.mem_append_right _ hu)
    rw [BinI_add, e1]
    refine cap_ok ht ?_
    rw [BinI_gtr, Cnd_b]
    refine ⟨fun hg => ?_, fun hg => ?_⟩
    · have hg := of_decide_eq_true hg
      have hg : c < n + 1 := by omega
      refine slc_ok 0 i ⟨_, rfl, by omega⟩ rfl rfl ?_
      rw [e0, Nat.sub_zero, Nat.sub_zero, BinI_add, e1, BinI_sub]
      have e2 : IntKind.i64.wrap (((n + 1 : Nat) : Int) - (i : Int)) = ((n + 1 - i : Nat) : Int) := by rw [w64 (by omega) (by omega)]; omega
      rw [e2]
      have hold : (Builtin.firstCells inf.size i (.slice (some ⟨b, 0, none⟩) i c)).run P w.drew = .ok X.toArray w.drew := run_firstCells_some (w := w.drew) inf.size i ⟨b, 0, none⟩ i c X (by rw [hX, hes]) (fun j v hj => by
        rw [add_of, Nat.zero_add]
        have : w.cell? ⟨b, j, none⟩ = some v := by
          rw [cell_of g, List.append_assoc, List.getElem?_append_left (List.getElem?_eq_some_iff.1 hj).1]
          exact hj
        exact this)
      have hfit : Builtin.nextslicecap (i + (n + 1 - i)) c * inf.bytes ≤ 281474976710656 := by rw [hby, show i + (n + 1 - i) = n + 1 from by omega]; exact growslice_fits hg hbig
      have hrun := Lib.run_append_grow_zeros (P := P) w t tn t elem inf z .i64 kn ht htn hi hiz (some ⟨b, 0, none⟩) i c X hold (n + 1 - i) (by omega) (by omega) (by omega) (by omega) (by
        rw [hby]
        exact Nat.le_trans (Nat.mul_le_mul_right bytes (show n + 1 - i ≤ n + 1 by omega)) (Nat.le_trans hbig (by decide))) hfit
      rw [show i + (n + 1 - i) = n + 1 from by omega] at hrun
      have hGn : n + 1 ≤ grownCap w (n + 1) c elem := grownCap_ge w _ _ _
      generalize grownCap w (n + 1) c elem = G at hrun hGn
      refine ⟨_, _, hrun, ?_⟩
      obtain ⟨J, hJ⟩ : ∃ J, J = (Builtin.zeroCells z.cells (n + 1 - i)).toList ++ (Builtin.zeroCells z.cells (G - (n + 1))).toList := ⟨_, rfl⟩
      have hJl : J.length = (G - i) * es := by
        rw [hJ, List.length_append, zeros_len, zeros_len, hz, hzs, ← Nat.add_mul]; congr 1; omega
      have hGi : (G - i) * es = es + (G - (i + 1)) * es := by rw [← Nat.succ_mul (G - (i + 1)) es |>.trans (Nat.add_comm _ _)]; congr 1; omega
      have hZG : Z.length ≤ (G - (i + 1)) * es := by rw [hZ]; exact Nat.mul_le_mul_right _ (by omega)
      have ec : (X.toArray ++ Builtin.zeroCells z.cells (n + 1 - i) ++ Builtin.zeroCells z.cells (G - (n + 1))) = (X ++ J).toArray := by
        apply Array.ext'; simp [hJ]
      rw [ec]
      have d2 : D w0 (cel w.drew.heap.size elem (X ++ J) :: cel b elem (X ++ Z ++ junk) :: cel bs elem news :: L) (w.drew.alloc (.cells (X ++ J).toArray elem)) := by
        refine ⟨?_, (d1.2.trans (Kp.drew w)).trans (Kp.alloc _ _)⟩
        rw [hw_alloc]
        exact Sat.new (hw_none w.drew) d1.1
      have hws : w.heap.size = w.drew.heap.size := rfl
      rw [hws]
      generalize w.drew.heap.size = nb at d2 ⊢
      generalize w.drew.alloc (.cells (X ++ J).toArray elem) = w2 at d2 ⊢
      refine slc_ok i (n + 1) rfl ⟨_, rfl, by omega⟩ rfl ?_
      rw [if_neg (by omega)]
      simp only [Option.map_some, add_of, Nat.zero_add]
      have gs := gc2 d2
      refine cp_ok ht hi d2 (news := news) (by rw [show Nat.min 1 (n + 1 - i) = 1 from by simp only [Nat.min_def]; split <;> omega, Nat.one_mul, hes, hnw]) (fun j v hj => by rw [add_of, cell_of gs, Nat.zero_add]; exact hj) (by rw [List.length_append, hX, hJl, hnw, hGi]; omega) h1 fun _ w3 d3 => ?_
      refine drw d3 fun w4 d4 => ?_
      refine qt d4 ?_
      refine qe_op (fun _ _ => BinI_add) ?_
      rw [e3]
      refine qe _ (fun w' _ => slc_ok (i + 1) (n + 1) rfl ⟨_, rfl, by omega⟩ rfl ⟨rfl, rfl⟩) ?_
      refine qe _ (fun w' _ => slc_ok i n rfl ⟨_, rfl, by omega⟩ rfl ⟨rfl, rfl⟩) ?_
      rw [if_neg (by omega), if_neg (by omega)]
      simp only [Option.map_some, add_of, Nat.zero_add]
      have g4 := gc1 d4
      refine cp_ok ht hi d4 (news := Z) (by rw [show Nat.min (n - i) (n + 1 - (i + 1)) = n - i from by simp only [Nat.min_def]; split <;> omega, hes, hZ]) (fun j v hj => by
        have hj' := (List.getElem?_eq_some_iff.1 hj).1
        rw [add_of, cell_of g4, List.append_assoc, List.getElem?_append_right (by omega), hX, Nat.add_sub_cancel_left, List.getElem?_append_left hj']; exact hj) (by rw [splice_length, List.length_append, hX, hJl, hmul, hGi]; omega) h1Z fun _ w5 d5 => ?_
      have hsp := splice_ins (X := X) (news := news) (Z := Z) (J := J) (i * es) hX.symm
      rw [if_pos (by rw [hnw, hJl, hGi]; omega), hnw] at hsp
      rw [hmul, hsp] at d5
      refine k _ _ ⟨Rw.mk (junk := J.drop (es + Z.length)) d5.tail2.1 hGn ?_ ?_, d5.2⟩
      · rw [List.length_append, List.length_append, hnw, Nat.succ_mul]; omega
      · rw [List.length_append, List.length_append, List.length_append, List.length_drop, hX, hnw, hJl, hGi]
        have : G * es = i * es + (es + (G - (i + 1)) * es) := by rw [← hGi, ← Nat.add_mul]; congr 1; omega
        omega
    · have hg := of_decide_eq_false hg
      have hg : n + 1 ≤ c := by omega
      rw [BinI_add, e1]
      refine slc_ok 0 (n + 1) ⟨_, rfl, by omega⟩ rfl rfl ?_
      rw [e0, Nat.sub_zero, Nat.sub_zero, BinI_add, e3]
      refine slc_ok (i + 1) (n + 1) rfl ⟨_, rfl, by omega⟩ rfl ?_
      rw [if_neg (by omega)]
      simp only [Option.map_some, add_of, Nat.zero_add]
      have gs := gc1 d1
      have hbne : bs ≠ b := (Sat.ne d1.1).symm
      have hnl : (X ++ Z ++ junk).length ≠ 0 := by rw [List.length_append, List.length_append, hXZ]; have : 0 < n * es := Nat.mul_pos (by omega) he0; omega
      have gs' : w.heap[bs]? = some (.cells news.toArray elem (0, 0)) := gs
      have gb' : w.heap[b]? = some (.cells (X ++ Z ++ junk).toArray elem (0, 0)) := g
      have hrun := hov ⟨bs, 0, none⟩ ⟨b, (i + 1) * es, none⟩ 1 c1 (n + 1 - (i + 1)) (c - (i + 1)) w (Lib.run_overlaps_apart (tR := tb) w t elem ht inf.size (run_sizeOf hi) ⟨bs, 0, none⟩ ⟨b, (i + 1) * es, none⟩ 1 c1 (n + 1 - (i + 1)) (c - (i + 1)) hbne elem elem news.toArray.size (X ++ Z ++ junk).toArray.size (by simp [World.shape?, gs']) (by simp [World.shape?, gb']) (by simpa using hnl) (by simp [World.frozen?, gs']) (by simp [World.frozen?, gs']))
      refine .inr ⟨.bool false, w, by simpa using hrun, ?_⟩
      show Un .not (.bool false) _ w
      rw [Un_not, Cnd_b]
      refine ⟨fun _ => ?_, fun h => by simp at h⟩
      refine drw d1 fun w4 d4 => ?_
      refine qt d4 ?_
      refine qe_op (fun _ _ => BinI_add) ?_
      rw [e3]
      refine qe _ (fun w' _ => slc_ok (i + 1) (n + 1) rfl ⟨_, rfl, by omega⟩ rfl ⟨rfl, rfl⟩) ?_
      refine qe _ (fun w' _ => slc_ok i (n + 1) rfl ⟨_, rfl, by omega⟩ rfl ⟨rfl, rfl⟩) ?_
      rw [if_neg (by omega), if_neg (by omega)]
      simp only [Option.map_some, add_of, Nat.zero_add]
      have g4 := d4.get
      have hroom : (n + 1) * es ≤ c * es := Nat.mul_le_mul_right _ hg
      rw [Nat.succ_mul] at hroom
      refine cp_ok ht hi d4 (news := Z) (by rw [show Nat.min (n + 1 - i) (n + 1 - (i + 1)) = n - i from by simp only [Nat.min_def]; split <;> omega, hes, hZ]) (fun j v hj => by
        have hj' := (List.getElem?_eq_some_iff.1 hj).1
        rw [add_of, cell_of g4, List.append_assoc, List.getElem?_append_right (by omega), hX, Nat.add_sub_cancel_left, List.getElem?_append_left hj']; exact hj) (by rw [hl2, hmul]; omega) h1Z fun _ w5 d5 => ?_
      refine slc_ok i (n + 1) rfl ⟨_, rfl, by omega⟩ rfl ?_
      rw [if_neg (by omega)]
      simp only [Option.map_some, add_of, Nat.zero_add]
      have gs5 := gc1 d5
      refine cp_ok ht hi d5 (news := news) (by rw [show Nat.min 1 (n + 1 - i) = 1 from by simp only [Nat.min_def]; split <;> omega, Nat.one_mul, hes, hnw]) (fun j v hj => by rw [add_of, cell_of gs5, Nat.zero_add]; exact hj) (by rw [splice_length, hl2, hnw]; omega) h1 fun _ w6 d6 => ?_
      have hT : (X ++ Z ++ junk).length = c * es := hl2
      have hsp : splice (splice (X ++ Z ++ junk) ((i + 1) * es) Z) (i * es) news = X ++ news ++ Z ++ (X ++ Z ++ junk).drop ((n + 1) * es) := by
        rw [splice_eq _ Z _ (by rw [hT, hmul]; omega)]
        rw [splice_eq _ news _ (by simp only [List.length_append, List.length_take, List.length_drop]; rw [hnw]; simp only [List.length_append] at hT; omega)]
        have ht1 : ((X ++ Z ++ junk).take ((i + 1) * es) ++ Z ++ (X ++ Z ++ junk).drop ((i + 1) * es + Z.length)).take (i * es) = X := by
          rw [List.append_assoc, List.take_append_of_le_length (by rw [List.length_take, hT, hmul]; omega), List.take_take, Nat.min_eq_left (by omega), List.append_assoc, ← hX, List.take_left]
        have ht2 : ((X ++ Z ++ junk).take ((i + 1) * es) ++ Z ++ (X ++ Z ++ junk).drop ((i + 1) * es + Z.length)).drop (i * es + news.length) = Z ++ (X ++ Z ++ junk).drop ((n + 1) * es) := by
          rw [hnw, ← hmul, List.append_assoc, List.drop_append, List.drop_eq_nil_of_le (by rw [List.length_take]; omega), List.nil_append, List.length_take, hT, show (i + 1) * es - min ((i + 1) * es) (c * es) = 0 from by omega, List.drop_zero]
          congr 2
          rw [hZ, ← Nat.add_mul]; congr 1; omega
        rw [ht1, ht2]
        simp only [List.append_assoc]
      rw [hsp] at d6
      refine k _ _ ⟨Rw.mk (junk := (X ++ Z ++ junk).drop ((n + 1) * es)) d6.1 hg ?_ ?_, d6.2⟩
      · rw [List.length_append, List.length_append, hnw, Nat.succ_mul]; omega
      · rw [List.length_append, List.length_append, List.length_append, List.length_drop, hX, hnw, hT, Nat.succ_mul]
        rw [hX] at hXZ
        omega
end
end Go.Jac
