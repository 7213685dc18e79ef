/- TreeChecks returns true. -/
import Derived.Test.YthbccfchjgihgaaGreatDoorLbR
import Derived.Test.YthbccfchjgihgaaGreatDoorRfH
namespace Go.Proofs.YthbccfchjgihgaaGreatDoor
open Go.RowKit

set_option maxRecDepth 100000 in
set_option maxHeartbeats 8000000 in
theorem checks_law (t : Tre) (p c : Int) (vr vb : Value) (w : World) (B : Nat) (hB : B ≤ w.heap.size) (h : TreRep w B t vr vb) (hV : VarOk w) :
    Calls Tryz.prog 3 #[treV vr vb, .int .i64 p, .int .i64 c] w fun e w' => e = .returned (.bool true) ∧ Below w.heap.size w w' := by
  have b1 := tre_new w vr vb
  have hs1 : w.heap.size + 1 ≤ (w.alloc (treC vr vb)).heap.size := by simp
  have HC := Lib.hid (show LawC t vr vb w B from ⟨hB, h, hV⟩)
  have KC := Lib.hid (fun (W : World) (hW : Below (w.heap.size + 1) (w.alloc (treC vr vb)) W) => treW_at hW)
  have HUP := Lib.hid (fun (W : World) (hW : Below (w.heap.size + 1) (w.alloc (treC vr vb)) W) => b1.trans (hW.mono (Nat.le_succ _)))
  obtain ⟨Ar, cr, rfl, -⟩ := id h.tops
  obtain ⟨A, ca, rfl, -⟩ := id h.brs
  have bX : Below (w.heap.size + 1) (w.alloc (treC (.slice Ar t.roots.length cr) (.slice A t.brs.length ca))) (w.alloc (treC (.slice Ar t.roots.length cr) (.slice A t.brs.length ca))) := Below.refl _ _
  clear h hV
  go_enter Tryz.func3, Tryz.ntmps3
  go_wp2_with fail
  refine (HC.out.awake (HUP.out _ bX)).mono ?_
  rintro e w1 ⟨rfl, hb1⟩
  have bX := bnd_call bX hs1 hb1
  obtain ⟨z0, z1, zl⟩ := KC.out _ bX
  clear hb1
  go_wp2_with fail
  refine (HC.out.few (HUP.out _ bX)).mono ?_
  rintro e w2 ⟨rfl, hb2⟩
  have bX := bnd_call bX hs1 hb2
  clear z0 z1 zl hb2
  cases hF : fewT t
  · go_wp2_with fail
    refine (HC.out.awake (HUP.out _ bX)).mono ?_
    rintro e w3 ⟨rfl, hb3⟩
    have bX := bnd_call bX hs1 hb3
    go_wp2
    go_ret
    exact ⟨rfl, HUP.out _ bX⟩
  · have HCP := Lib.hid (fun (W : World) (hW : Below w.heap.size w W) => HC.out.cp hF hW)
    have HZ := Lib.hid (few_size hF)
    have HMK := Lib.hid (fun (b : Brn) (hb : b ∈ t.brs) => (by have := ((few_brs hF).2.2 b hb).2.2; omega : b.mark.size ≤ 100000))
    clear hF
    have H1 := Lib.hid (fun (x y : Value) (W : World) (hW : Below w.heap.size w W) (hr : TreRep W W.heap.size t x y) => check_c t HZ.out x y W _ (Nat.le_refl _) hr (HC.out.at_ hW).2.2)
    have H2 := Lib.hid (fun (W : World) (hW : Below w.heap.size w W) => rcheck_c t HZ.out HMK.out (.slice Ar t.roots.length cr) (.slice A t.brs.length ca) W B (HC.out.at_ hW).1 (HC.out.at_ hW).2.1)
    obtain ⟨i, hi⟩ : ∃ i, (chkF t).1 = i := ⟨_, rfl⟩
    obtain ⟨ke, hk⟩ : ∃ i, (chkF t).2 = i := ⟨_, rfl⟩
    simp only [chkP, hi, hk] at H1 H2
    clear hi hk
    obtain ⟨z0, z1, zl⟩ := KC.out _ bX
    go_wp2_with fail
    refine (HCP.out _ (HUP.out _ bX)).mono ?_
    rintro e wc1 ⟨xc1, yc1, rfl, hrc1, hbc1⟩
    have bX := bnd_call bX hs1 hbc1
    clear z0 z1 zl hbc1
    go_wp2_with fail
    refine (H1.out _ _ _ (HUP.out _ bX) hrc1).mono ?_
    rintro e wr1 ⟨rfl, hbr1⟩
    have bX := bnd_call bX hs1 hbr1
    clear hrc1
    obtain ⟨z0, z1, zl⟩ := KC.out _ bX
    go_wp2_with fail
    refine (H2.out _ (HUP.out _ bX)).mono ?_
    rintro e wr2 ⟨rfl, hbr2⟩
    have bX := bnd_call bX hs1 hbr2
    clear z0 z1 zl
    go_wp2_with fail
    refine (fits_c p c _).mono ?_
    rintro e w5 ⟨rfl, hw5⟩
    subst hw5
    go_wp2_with fail
    refine (rfits_c p c _).mono ?_
    rintro e w6 ⟨rfl, hw6⟩
    subst hw6
    generalize fitB p c = b
    cases b
    all_goals
      go_wp2
      go_ret
      exact ⟨rfl, HUP.out _ bX⟩
end Go.Proofs.YthbccfchjgihgaaGreatDoor
