/- The program: right, Total. -/
import Derived.Test.YtenaifmkejmdaaaGreatDoorChC
import Derived.Test.YtenaifmkejmdaaaGreatDoorPlD
namespace Go.Proofs.YtenaifmkejmdaaaGreatDoor
open Go.RowKit

theorem tl_eta (l : TL) : (⟨l.id, l.office, l.day, l.items⟩ : TL) = l := rfl
theorem right_c (l : TL) (v : Value) (w : World) (B : Nat) (hB : B ≤ w.heap.size) (h : TLRep w B l v) (hV : VarOk w) :
    Calls Tryz.prog 30 #[tlV l v] w fun e w' => e = .returned (.bool (rightB l)) ∧ Below w.heap.size w w' := by
  have b0 : Below w.heap.size w (w.alloc (tlC l v)) := (Below.refl _ _).alloc (Nat.le_refl _) _
  have HC := Lib.hid (check_c l v (w.alloc (tlC l v)) B (Nat.le_trans hB b0.size) (h.below itmS (b0.mono hB)) (hV.below b0))
  obtain ⟨A, c, rfl, -⟩ := id h
  have HE := Lib.hid (show rightB l = decide ((chkF l).2 = 0) from rfl)
  go_enter Tryz.func30, Tryz.ntmps30
  go_wp2_with fail
  refine HC.out.mono ?_
  rintro e w1 ⟨rfl, hb1⟩
  go_wp2
  go_ret
  exact ⟨ret_bool (by rw [HE.out]; rfl), b0.trans (hb1.mono (by simp))⟩
/-- what Total returns: pages, days, the error -/
def totE (l : TL) : Int := if rightB l then 0 else 1
def totP (l : TL) : Int := if rightB l then sumP l.items else 0
def fst0 (l : TL) : Int := (l.items.head?.map Item.first).getD 0
def lst0 (l : TL) : Int := (l.items.head?.map Item.last).getD 0
def totA (l : TL) : Int := if rightB l then minG (fst0 l) l.items else 0
def totB (l : TL) : Int := if rightB l then maxG (lst0 l) l.items else 0
end Go.Proofs.YtenaifmkejmdaaaGreatDoor
