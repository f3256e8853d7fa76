/- Many alike parts of memory, of which one is taken out and put back. -/
import Derived.Test.YtfehhjjfmbjlfaaGreatDoorSk
namespace Go.Jac
open Go
theorem Sat.perm {A B : List HP} (p : A.Perm B) : ∀ {h : Hp}, Sat A h → Sat B h := by
  induction p with
  | nil => exact fun s => s
  | cons x _ ih => exact fun s => s.under fun _ s => ih s
  | swap x y l => exact fun s => s.swap
  | trans _ _ ih1 ih2 => exact fun s => ih2 (ih1 s)
section
variable {α : Type} {f : α → HP} {M R : List α} {x : α} {w0 w : World} {L A B : List HP}
theorem D.perm (p : A.Perm B) (d : D w0 A w) : D w0 B w := ⟨d.1.perm p, d.2⟩
theorem D.take1 (h : M.Perm (x :: R)) (d : D w0 (sat (M.map f) :: L) w) : D w0 (f x :: sat (R.map f) :: L) w :=
  (D.close (d.opens.perm (((h.map f).append_right L).trans List.perm_middle.symm))).swap
theorem D.put1 (h : M.Perm (x :: R)) (d : D w0 (f x :: sat (R.map f) :: L) w) : D w0 (sat (M.map f) :: L) w :=
  D.close (d.swap.opens.perm (List.perm_middle.trans ((h.map f).append_right L).symm))
theorem D.nil_sat (d : D w0 L w) : D w0 (sat (([] : List α).map f) :: L) w := D.close (M := []) d
end
end Go.Jac
