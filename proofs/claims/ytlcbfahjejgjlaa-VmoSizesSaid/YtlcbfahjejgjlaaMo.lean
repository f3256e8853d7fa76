/- Memory: VmoRoom. -/
import Derived.Test.YtlcbfahjejgjlaaMn
set_option maxRecDepth 100000
set_option maxHeartbeats 8000000
namespace Go.Proofs.Ytlcbfahjejgjlaa
open Go Go.Jac
theorem look_in {pl : PL} (hk : Kn pl) {p : Int} {f : Nat} (h : (p, f) ∈ pl) : look pl p = some f := by
  induction pl with
  | nil => cases h
  | cons e r ih =>
    unfold Kn at hk
    rw [List.map_cons, List.nodup_cons] at hk
    rw [look_cons]
    rcases List.mem_cons.1 h with rfl | h
    · simp
    · rw [if_neg (fun (e' : e.1 = p) => hk.1 (List.mem_map.2 ⟨_, h, e'.symm⟩))]
      exact ih hk.2 h
theorem look_key {pl : PL} {q : Int} : look pl q ≠ none ↔ q ∈ pl.map (·.1) := by
  induction pl with
  | nil => simp [look]
  | cons e r ih =>
    rw [look_cons, List.map_cons, List.mem_cons]
    split
    · rename_i h; simp [h]
    · rename_i h
      rw [ih]
      constructor
      · exact .inr
      · rintro (h' | h')
        · exact absurd h'.symm h
        · exact h'
theorem cnt_ex {pl : PL} {f : Nat} (hk : Kn pl) (h : 0 < cnt pl f) : ∃ q, look pl q = some f := by
  unfold cnt at h
  obtain ⟨e, he, hf⟩ := List.countP_pos_iff.1 h
  refine ⟨e.1, look_in hk ?_⟩
  have : e.2 = f := by simpa using hf
  rw [← this]; exact he
theorem pl_len {pl : PL} {ps : List Int} (hk : Kn pl) (hn : ps.Nodup) (h : ∀ q, look pl q ≠ none ↔ q ∈ ps) : pl.length = ps.length := by
  have := ((List.perm_ext_iff_of_nodup hk hn).2 fun q => (look_key (pl := pl) (q := q)).symm.trans (h q)).length_eq
  simpa using this
theorem need_nil (F : List Fr) (ps : List Int) : needF (F, []) ps = ps.length := by
  unfold needF
  exact List.countP_eq_length.2 fun q _ => rfl
theorem pgN_z (N : Nat) : pgN 0 (64 * (N : Int)) = N := by
  unfold pgN
  split <;> omega
/-- What was committed to an object that had nothing. -/
structure CE (cap : Int) (F : List Fr) (M : List Vo) (id : Int) (x : Vo) (N : Nat) (g : Int) (F' : List Fr) (M' : List Vo) (pl' : PL) : Prop where
  vw : VW cap F' M'
  g0 : g = 0 ↔ (usedF F : Int) + N ≤ cap
  eqM : ∀ a, vfind M' a = if a = id then some { x with pl := pl' } else vfind M a
  used : usedF F' = usedF F + if g = 0 then N else 0
  pgs : ∀ q, look pl' q ≠ none → q ∈ pgL 0 (64 * (N : Int))
  len : pl'.length = if g = 0 then N else 0
  one : ∀ q f, look pl' q = some f → (fr F' f).users = 1
  oth : ∀ f, 0 < (fr F f).users → (fr F' f).users = (fr F f).users
section
variable {w0 w : World} {L : List HP} {K : Value → WP} {b : Nat} {last most cap : Int} {F : List Fr} {M : List Vo} {x : Vo}
theorem VOpE_ok {id : Int} {N : Nat} (h : VW cap F M) (hx : live M id = some x) (hs : x.sl = false) (hpl : x.pl = []) (hN : N ≤ 64) (hsz : 64 * (N : Int) ≤ x.size) (d : D w0 (Vs b last most cap F M :: L) w)
    (k : ∀ g F' M' pl' w', CE cap F M id x N g F' M' pl' → D w0 (Vs b last most cap F' M' :: L) w' → K (.int .i64 g) w') :
    Cl pg 18 #[.pointer (some ⟨b, 0, none⟩), .int .i64 id, .int .i64 1, .int .i64 0, .int .i64 (64 * (N : Int))] K w := by
  have hxl := live_some hx
  have hsx := h.sz x (vfind_id hxl.1).2
  have hyf := (h.hasf id x hxl.1).1 hs
  have hl : (pgL 0 (64 * (N : Int))).length = N := by rw [pgL_len, pgN_z]
  refine VOpC_ok h hx hs (by omega) (by omega) (by omega) d (fun hno w d => ?_) fun hroom F' pl' w hcs hp h1 hu d => ?_
  · rw [hpl, need_nil, hl] at hno
    refine k (-4) F M [] w ⟨h, ⟨fun e => by omega, fun e => by omega⟩, fun a => ?_, by simp, by simp [look], by simp, by simp [look], fun _ _ => rfl⟩ d
    split
    · rename_i e
      rw [e, hxl.1, ← hpl]
    · rfl
  · rw [hpl, need_nil, hl] at hroom
    rw [hpl] at hp hu
    have hp' : ∀ q, look pl' q ≠ none ↔ q ∈ pgL 0 (64 * (N : Int)) := fun q => by rw [hp q]; simp [look]
    have hu' := hu fun q _ => rfl
    rw [hl] at hu'
    have hon : ∀ q f, look pl' q = some f → (fr F' f).users = 1 := fun q f hf => by
      obtain ⟨f', e1, e2⟩ := h1 q ((hp' q).1 (by rw [hf]; simp))
      rw [hf] at e1
      obtain rfl := Option.some.inj e1
      exact e2
    have hui := hcs.ui
    have hkn := hcs.kn
    have hok := hcs.ok
    simp only at hui hkn hok
    refine k 0 F' _ pl' w ⟨h.pl hxl.1 hyf hok hkn hui, ⟨fun _ => hroom, fun _ => rfl⟩, fun a => vfind_upd (y := { x with pl := pl' }) (vfind_id hxl.1).1 a, by rw [hu']; simp, fun q hq => (hp' q).1 hq, by rw [pl_len hkn (pgL_nd _ _) hp', hl]; simp, hon, fun f hf => ?_⟩ d
    have e1 := h.ui f
    rw [tot_rm h.nd hxl.1, hpl] at e1
    have e2 := hui f
    have e3 : cnt [] f = 0 := rfl
    rcases Nat.eq_zero_or_pos (cnt pl' f) with e | e
    · omega
    · obtain ⟨q, hq⟩ := cnt_ex hkn e
      have := hon q f hq
      omega
end
section
variable {w0 w : World} {L : List HP} {K : Value → WP}
theorem vroom_law {cap first more : Int} (hc : I64 cap) (hf : I64 first) (hm : I64 more) (d : D w0 L w) (k : ∀ w', D w0 L w' → K (.bool true) w') :
    Cl pg 5 #[.int .i64 cap, .int .i64 first, .int .i64 more] K w := by
  refine V.jacinthlaw08_VmoRoom_ok ?_
  unfold V.jacinthlaw08_VmoRoom
  have aw : ∀ {L' : List HP} {w : World} {K' : Value → WP}, D w0 L' w → (∀ w', D w0 L' w' → K' (.bool true) w') → FnV pg (.func (.func 9) #[] #[]) #[] K' w := fun d k => fn00 (fun _ _ => rfl) (awake_ok d k)
  by_cases hcap : 0 ≤ cap ∧ cap ≤ 65536
  · refine fn20 (fun _ _ => rfl) (VNew_ok (cap := cap) (n := 3) hcap (by omega) d fun b w d => ?_)
    have hd : FnV pg (.func (.func 9) #[] #[]) #[] K w := aw d fun w d => k w d.tail
    have vw0 := VW.nil hcap
    repeat (simp +decide only [SEM])
    refine ⟨fun _ => ⟨fun _ => ⟨fun _ => ⟨fun _ => ⟨fun _ => hd, fun _ => ?_⟩, fun _ => hd⟩, fun _ => hd⟩, fun _ => hd⟩, fun _ => hd⟩
    clear hd
    obtain ⟨f, rfl⟩ := Int.eq_ofNat_of_zero_le (a := first) (by omega)
    obtain ⟨m, rfl⟩ := Int.eq_ofNat_of_zero_le (a := more) (by omega)
    refine fn20 (fun _ _ => rfl) (VCreate_ok (n := 4096) (by omega) vw0.nd (by simp) (by omega) rfl rfl (by simp) d fun fb c w d => ?_)
    have d : D w0 (Vs b 1 3 cap [] [newV 1 4096 fb c] :: L) w := d
    have vw1 : VW cap [] [newV 1 4096 fb c] := vw0.new rfl (by omega)
    rw [show (0 : Int) + 1 = 1 from rfl]
    repeat (simp +decide only [SEM])
    refine fn20 (fun _ _ => rfl) (VCreate_ok (n := 4096) (by omega) vw1.nd (by simp) (by omega) rfl rfl (by simp [newV]) d fun fb2 c2 w d => ?_)
    have d : D w0 (Vs b 2 3 cap [] [newV 2 4096 fb2 c2, newV 1 4096 fb c] :: L) w := d
    have vw2 : VW cap [] [newV 2 4096 fb2 c2, newV 1 4096 fb c] := vw1.new rfl (by omega)
    rw [show (1 : Int) + 1 = 2 from rfl]
    repeat (simp +decide only [SEM])
    rw [show IntKind.i64.wrap (64 * (f : Int)) = 64 * (f : Int) from w64 (by omega) (by omega)]
    refine fn50 (fun _ _ => rfl) (VOpE_ok (id := 1) (N := f) vw2 (x := newV 1 4096 fb c) rfl rfl rfl (by omega) (by show 64 * (f : Int) ≤ 4096; omega) d fun g F1 M1 pl1 w c1 d => ?_)
    have hg := c1.g0
    rw [show usedF [] = 0 from rfl] at hg
    repeat (simp +decide only [SEM])
    have e0 : (decide (g = 0) == decide ((f : Int) ≤ cap)) = true := by rw [decide_eq_decide.2 (show g = 0 ↔ (f : Int) ≤ cap by omega), beq_self_eq_true]
    refine ⟨fun h => (by rw [e0] at h; cases h), fun _ => ?_⟩
    obtain ⟨u, hu⟩ : ∃ u : Nat, u = (if g = 0 then f else 0) := ⟨_, rfl⟩
    have hu2 : u ≤ 40 := by rw [hu]; split <;> omega
    have hu3 : usedF F1 = u := by rw [c1.used, hu]; exact Nat.zero_add _
    have hu4 : pl1.length = u := by rw [c1.len, hu]
    intro K' hK'
    have fin : K' [.int .i64 (u : Int)] w := by
      refine hK' _ _ fun _ => ?_
      clear hK'
      simp only [UN]
      repeat (simp +decide only [SEM])
      rw [show IntKind.i64.wrap (64 * (m : Int)) = 64 * (m : Int) from w64 (by omega) (by omega)]
      obtain ⟨x1, hx1⟩ : ∃ x1 : Vo, x1 = ⟨1, 4096, 0, true, fb, pl1, .slice none 0 0, [], false, 0, 0, false, c⟩ := ⟨_, rfl⟩
      have l1 : vfind M1 1 = some x1 := by rw [c1.eqM, if_pos rfl, hx1]; rfl
      have l2 : vfind M1 2 = some (newV 2 4096 fb2 c2) := by rw [c1.eqM, if_neg (by decide)]; rfl
      have lv2 : live M1 2 = some (newV 2 4096 fb2 c2) := by unfold live; rw [l2]; rfl
      refine fn50 (fun _ _ => rfl) (VOpE_ok (id := 2) (N := m) c1.vw (x := newV 2 4096 fb2 c2) lv2 rfl rfl (by omega) (by show 64 * (m : Int) ≤ 4096; omega) d fun h F2 M2 pl2 w c3 d => ?_)
      have hh := c3.g0
      rw [hu3] at hh
      repeat (simp +decide only [SEM])
      rw [show IntKind.i64.wrap (cap - (u : Int)) = cap - u from w64 (by omega) (by omega)]
      have e1 : (decide (h = 0) == decide ((m : Int) ≤ cap - u)) = true := by rw [decide_eq_decide.2 (show h = 0 ↔ (m : Int) ≤ cap - u by omega), beq_self_eq_true]
      refine ⟨fun h => (by rw [e1] at h; cases h), fun _ => ?_⟩
      obtain ⟨u2, hu5⟩ : ∃ u2 : Nat, u2 = u + (if h = 0 then m else 0) := ⟨_, rfl⟩
      have hu6 : u2 ≤ 80 := by rw [hu5]; split <;> omega
      have hu7 : usedF F2 = u2 := by rw [c3.used, hu5, hu3]
      intro K2 hK2
      have fin : K2 [.int .i64 (u2 : Int)] w := by
        refine hK2 _ _ fun _ => ?_
        clear hK2
        simp only [UN]
        refine fn10 (fun _ _ => rfl) (VRoom_ok (F := F2) (cap := cap) hcap (by omega) d fun w d => ?_)
        repeat (simp +decide only [SEM])
        rw [hu7, show IntKind.i64.wrap (cap - (u2 : Int)) = cap - u2 from w64 (by omega) (by omega)]
        refine ⟨fun _ => ?_, fun h => absurd rfl h⟩
        skip
        rw [show IntKind.i64.wrap (64 * (f : Int)) = 64 * (f : Int) from w64 (by omega) (by omega)]
        have l3 : vfind M2 1 = some x1 := by rw [c3.eqM, if_neg (by decide)]; exact l1
        have lv3 : live M2 1 = some x1 := by unfold live; rw [l3, hx1]; rfl
        have x1p : x1.pl = pl1 := by rw [hx1]
        have x1s : x1.size = 4096 := by rw [hx1]
        have hone : ∀ q t, look x1.pl q = some t → (fr F2 t).users = 1 := fun q t ht => by
          rw [x1p] at ht
          have h1 := c1.one q t ht
          rw [c3.oth t (by omega), h1]
        refine fn50 (fun _ _ => rfl) (VOpD_ok (id := 1) (a := 0) (n := 64 * (f : Int)) c3.vw lv3 (by rw [hx1]) (by omega) (by omega) (by rw [x1s]; omega) hone d fun F3 pl3 w ri d => ?_)
        have hno : ∀ q, look pl3 q = none := fun q => by
          rw [ri.lk q, x1p]
          split
          · rfl
          · rename_i hq
            cases hl : look pl1 q with
            | none => rfl
            | some t => exact absurd (c1.pgs q (by rw [hl]; simp)) hq
        have hl3 : pl3.length = 0 := pl_len (ps := []) ri.kn List.nodup_nil fun q => by simp [hno q]
        have hu8 := ri.used
        rw [x1p, hu4, hu7, hl3] at hu8
        have hn3 : Nv ({ x1 with pl := pl3 } :: rmV 1 M2) := c3.vw.nd.upd (x := x1) (y := { x1 with pl := pl3 }) (by rw [hx1])
        have l4 : vfind ({ x1 with pl := pl3 } :: rmV 1 M2) 1 = some { x1 with pl := pl3 } := by rw [vfind_cons, if_pos (by rw [hx1])]
        repeat (simp +decide only [SEM])
        refine fn20 (fun _ _ => rfl) (VInfo_ok hn3 l4 (fun h => by rw [hx1] at h; cases h) d fun w d => ?_)
        repeat (first | (simp +decide only [SEM]) | (apply ldm d; (focus ((repeat (first | exact .h _ | refine .t _ _ ?_)); done)); (focus rfl)) | (refine d_new _ d fun bn w d => ?_) | (apply swm d; (focus ((repeat (first | exact .h _ | apply Rp.t)); done)); (focus rfl); (focus rfl); (focus exact ones rfl); intro w d; simp only [SPL] at d))
        rw [hl3]
        repeat (simp +decide only [SEM])
        refine ⟨fun hg0 => ?_, fun _ => aw (D.sel [1] d) fun w d => k w d.tail.tail⟩
        rw [if_pos hg0] at hu
        refine fn10 (fun _ _ => rfl) (VRoom_ok (F := F3) (cap := cap) hcap (by omega) (D.sel [1] d) fun w d => ?_)
        repeat (simp +decide only [SEM])
        rw [show IntKind.i64.wrap (cap - (u2 : Int)) = cap - u2 from w64 (by omega) (by omega), show IntKind.i64.wrap (cap - (u2 : Int) + f) = cap - u2 + f from w64 (by omega) (by omega)]
        refine ⟨fun _ => aw d fun w d => k w d.tail.tail, fun h => absurd (by omega) h⟩
      repeat (simp +decide only [SEM])
      rw [show IntKind.i64.wrap ((u : Int) + m) = ((u + m : Nat) : Int) from by rw [w64 (by omega) (by omega)]; simp]
      refine ⟨fun h => ?_, fun h => ?_⟩
      · rw [hu5, if_pos h] at fin; exact fin
      · rw [hu5, if_neg h] at fin; exact fin
    repeat (simp +decide only [SEM])
    refine ⟨fun h => ?_, fun h => ?_⟩
    · rw [hu, if_pos h] at fin; exact fin
    · rw [hu, if_neg h] at fin; exact fin
  · refine fn20 (fun _ _ => rfl) (VNew_no (cap := cap) (n := 3) hcap d fun w d => ?_)
    have hd : FnV pg (.func (.func 9) #[] #[]) #[] K w := aw d k
    repeat (simp +decide only [SEM])
    refine ⟨fun h => ⟨fun _ => hd, fun h2 => absurd ⟨by omega, by omega⟩ hcap⟩, fun _ => hd⟩
end
end Go.Proofs.Ytlcbfahjejgjlaa
