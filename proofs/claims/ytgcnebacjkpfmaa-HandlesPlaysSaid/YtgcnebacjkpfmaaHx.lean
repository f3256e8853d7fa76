/- Handles: finding and looking, as functions; one step of a script. -/
import Derived.Test.YtgcnebacjkpfmaaHw
import Derived.Test.YtgcnebacjkpfmaaSm
set_option maxRecDepth 100000
set_option maxHeartbeats 8000000
namespace Go.Proofs.Ytgcnebacjkpfmaa
open Go Go.Jac
def fndX (S : List Slot) (v kind need : Int) : Slot := if look S v = none then ⟨0, 0, 0, 0⟩ else if findS (clx S v) kind need = 0 then clx S v else ⟨0, 0, 0, 0⟩
def fndS (S : List Slot) (v kind need : Int) : Int := if look S v = none then -11 else findS (clx S v) kind need
theorem iandNot_zero (r : Int) : iandNot .i64 0 r = 0 := by
  rw [iandNot_0]
  apply BitVec.eq_of_getLsbD_eq
  intro i hi
  simp
theorem find00 (x : Slot) : findS x 0 0 = 0 := by
  unfold findS
  rw [if_neg (by simp), if_pos (iandNot_zero _)]
structure Opx where
  kd : Int
  v : Int
  nth : Int
  n : Int
  want : Int
  dr : Int
  o : Int
  k : Int
  r : Int
  lv : Value
  l : List Int
def oc (x : Opx) : List Value := [.int .i64 x.kd, .int .i64 x.v, .int .i64 x.nth, .int .i64 x.n, .int .i64 x.want, .int .i64 x.dr, .int .i64 x.o, .int .i64 x.k, .int .i64 x.r, x.lv]
theorem oc_len (x : Opx) : (oc x).length = 10 := rfl
theorem nc_one (l : List Int) : ∀ u ∈ l.flatMap nc, u.oneCell' = true := by
  intro u hu
  obtain ⟨x, _, hx⟩ := List.mem_flatMap.1 hu
  simp [nc] at hx
  subst hx; rfl
section
variable {w0 w : World} {L : List HP} {K : Value → WP} {b c : Nat} {cap : Int} {S : List Slot} {sv se : Value} {l : List Int}
/-- A row behind a row, it may be empty. -/
theorem app_m {elem es bytes n m : Nat} {zero : Array Value} {x : Value} {cs news : List Value} (d : D w0 (Rw elem es sv n cs :: L) w) (hx : SrcV es x m news w) (hz : zero.size = es) (hb : (n + m) * bytes ≤ 140737488355328) (h63 : n + m < 4611686018427387904)
    (hx2 : ∀ v ∈ news, v.oneCell' = true)
    (k : ∀ sv' w', D w0 (Rw elem es sv' (n + m) (cs ++ news) :: L) w' → K sv' w') : AppC elem es bytes zero sv x K w := by
  rcases Nat.eq_zero_or_pos m with h0 | h0
  · subst h0
    have hc0 : news = [] := by
      have hl : news.length = 0 * es := by
        rcases hx with ⟨a, c', h, hl, _⟩ | ⟨c', h, hn, hc⟩
        · exact hl
        · simp [hc]
      exact List.length_eq_zero_iff.1 (by simpa using hl)
    subst hc0
    obtain ⟨q, c, rfl, hle⟩ := Rw.shape d.1
    exact ⟨_, _, _, 0, [], rfl, hx, .inl ⟨rfl, hle, k _ _ (by simpa using d)⟩⟩
  · exact d_app d hx hz h0 hb h63 hx2 k
/-- A copy of a row of numbers. -/
theorem copy_ints {bn : Nat} {v : Value} (hl : l.length ≤ 65536) (d : D w0 (cel bn 3 [] :: Rw 3 1 v l.length (l.flatMap nc) :: L) w) (k : ∀ v' w', D w0 (Rw 3 1 v' l.length (l.flatMap nc) :: Rw 3 1 v l.length (l.flatMap nc) :: L) w' → K v' w') : AppC 3 1 8 #[.int .i64 0] (.slice (some ⟨bn, 0, none⟩) 0 0) v K w := by
  have d1 : D w0 (Rw 3 1 (.slice (some ⟨bn, 0, none⟩) 0 0) 0 [] :: Rw 3 1 v l.length (l.flatMap nc) :: L) w := ⟨Rw.mk (junk := []) d.1 (by omega) (by simp) (by simp), d.2⟩
  refine app_m d1 (src_rw d1.tail (nc_one l)) rfl (by omega) (by omega) (nc_one l) fun v' w d => ?_
  rw [Nat.zero_add, List.nil_append] at d
  exact k v' w d
theorem Find_r {v kind need : Int} (hv : I64 v) (d : D w0 (Tb b cap S :: L) w) (k : ∀ w', D w0 (Tb b cap S :: L) w' → K (.tuple #[(fndX S v kind need).ent, .int .i64 (fndS S v kind need)]) w') :
    Cl pg 17 #[.pointer (some ⟨b, 0, none⟩), .int .i64 v, .int .i64 kind, .int .i64 need] K w := by
  unfold fndX fndS at k
  refine Find_ok hv d (fun hn w d => ?_) fun p hp hl w d => ?_
  · rw [if_pos hn, if_pos hn] at k
    exact k w d
  · have hn : ¬ look S v = none := by rw [hl]; simp
    rw [if_neg hn, if_neg hn, clx_some hl hp] at k
    have := k w d
    by_cases hf : findS S[p] kind need = 0
    · rw [if_pos hf] at this ⊢; exact this
    · rw [if_neg hf] at this ⊢; exact this
theorem Look_r {v kind need : Int} (hg : GInv S) (hS : S.length ≤ 65536) (d : D w0 (Rt c cap S :: L) w) (k : ∀ w', D w0 (Rt c cap S :: L) w' → K (.tuple #[(fndX S v kind need).ent, .int .i64 (fndS S v kind need)]) w') :
    Cl pg 40 #[.pointer (some ⟨c, 0, none⟩), .int .i64 v, .int .i64 kind, .int .i64 need] K w := by
  unfold fndX fndS at k
  refine RLook_ok hg hS d (fun hn w d => ?_) fun p hp hl w d => ?_
  · rw [if_pos hn, if_pos hn] at k
    exact k w d
  · have hn : ¬ look S v = none := by rw [hl]; simp
    rw [if_neg hn, if_neg hn, clx_some hl hp] at k
    have := k w d
    by_cases hf : findS S[p] kind need = 0
    · rw [if_pos hf] at this ⊢; exact this
    · rw [if_neg hf] at this ⊢; exact this
theorem Get_r {v : Int} (hv : I64 v) (d : D w0 (Tb b cap S :: L) w) (k : ∀ w', D w0 (Tb b cap S :: L) w' → K (.tuple #[(fndX S v 0 0).ent, .int .i64 (fndS S v 0 0)]) w') :
    Cl pg 16 #[.pointer (some ⟨b, 0, none⟩), .int .i64 v] K w := by
  unfold fndX fndS at k
  refine Get_ok hv d (fun hn w d => ?_) fun p hp hl w d => ?_
  · rw [if_pos hn, if_pos hn] at k
    exact k w d
  · have hn : ¬ look S v = none := by rw [hl]; simp
    rw [if_neg hn, if_neg hn, clx_some hl hp, find00, if_pos rfl] at k
    exact k w d
theorem GInv.i64 (hg : GInv S) {n : Nat} {x : Slot} (hx : (tkn S)[n]? = some x) : I64 x.v := by
  have hm := List.mem_of_getElem? hx
  unfold tkn at hm
  rw [List.mem_filter] at hm
  obtain ⟨p, hp⟩ := List.mem_iff_getElem?.1 hm.1
  exact hplc_i64 (hg p x hp (by simpa using hm.2))
theorem dup_inv {v want dr : Int} (hS : TOk cap S) (hg : GInv S) : TOk cap (dupR cap S v want dr).2.2 ∧ GInv (dupR cap S v want dr).2.2 := by
  unfold dupR
  split
  · exact ⟨hS, hg⟩
  · split
    · exact ⟨hS, hg⟩
    · split
      · exact ⟨hS, hg⟩
      · split
        · exact ⟨hS, hg⟩
        · rename_i hc
          have h6 := fre_lt hS hc
          exact ⟨(adS_ok' (hval_ne ⟨by omega, by omega⟩) hS hc).1, hg.ad h6⟩
theorem clo_tok {v : Int} (hS : TOk cap S) : TOk cap (clo S v) := ⟨by rw [clo_len]; exact hS.1, hS.2⟩
theorem rpl_inv {v want dr : Int} (hS : TOk cap S) (hg : GInv S) : TOk cap (rplR S v want dr).2.2.2 ∧ GInv (rplR S v want dr).2.2.2 := by
  unfold rplR
  split
  · exact ⟨hS, hg⟩
  · rename_i hn
    split
    · exact ⟨clo_tok hS, hg.clo v⟩
    · obtain ⟨p, hl⟩ : ∃ p, look S v = some p := by
        cases h : look S v with
        | none => exact absurd h hn
        | some p => exact ⟨p, rfl⟩
      obtain ⟨hp, hpv, -⟩ := look_some hl
      have hS1 := hS.1
      have hc : cnt (clo S v) ≠ cap := by
        rw [clo_some hl]
        have h1 := cnt_set hp ⟨0, 0, 0, 0⟩
        rw [if_pos (by rw [hpv]; exact look_ne hl), if_neg (by simp)] at h1
        have h2 := cnt_le S
        omega
      have h6 := fre_lt (clo_tok hS) hc
      exact ⟨(adS_ok' (hval_ne ⟨by omega, by omega⟩) (clo_tok hS) hc).1, (hg.clo v).ad h6⟩
end
end Go.Proofs.Ytgcnebacjkpfmaa
