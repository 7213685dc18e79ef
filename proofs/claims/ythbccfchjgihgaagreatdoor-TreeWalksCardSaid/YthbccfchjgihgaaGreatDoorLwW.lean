/- TreeWalks returns true. -/
import Derived.Test.YthbccfchjgihgaaGreatDoorLbR
import Derived.Test.YthbccfchjgihgaaGreatDoorRfJ
namespace Go.Proofs.YthbccfchjgihgaaGreatDoor
open Go.RowKit

set_option maxRecDepth 100000 in
set_option maxHeartbeats 8000000 in
theorem walks_law (t : Tre) (a b : Int) (vr vb : Value) (w : World) (B : Nat) (hB : B ≤ w.heap.size) (h : TreRep w B t vr vb) (hV : VarOk w) :
    Calls Tryz.prog 5 #[treV vr vb, .int .i64 a, .int .i64 b] w fun e w' => e = .returned (.bool true) ∧ Below w.heap.size w w' := by
  have b1 := tre_new w vr vb
  have hs1 : w.heap.size + 1 ≤ (w.alloc (treC vr vb)).heap.size := by simp
  have HC := Lib.hid (show LawC t vr vb w B from ⟨hB, h, hV⟩)
  have KC := Lib.hid (fun (W : World) (hW : Below (w.heap.size + 1) (w.alloc (treC vr vb)) W) => treW_at hW)
  have HUP := Lib.hid (fun (W : World) (hW : Below (w.heap.size + 1) (w.alloc (treC vr vb)) W) => b1.trans (hW.mono (Nat.le_succ _)))
  obtain ⟨Ar, cr, rfl, -⟩ := id h.tops
  obtain ⟨A, ca, rfl, -⟩ := id h.brs
  have bX : Below (w.heap.size + 1) (w.alloc (treC (.slice Ar t.roots.length cr) (.slice A t.brs.length ca))) (w.alloc (treC (.slice Ar t.roots.length cr) (.slice A t.brs.length ca))) := Below.refl _ _
  clear h hV
  go_enter Tryz.func5, Tryz.ntmps5
  go_wp2_with fail
  refine (HC.out.awake (HUP.out _ bX)).mono ?_
  rintro e w1 ⟨rfl, hb1⟩
  have bX := bnd_call bX hs1 hb1
  obtain ⟨z0, z1, zl⟩ := KC.out _ bX
  clear hb1
  go_wp2_with fail
  refine (HC.out.few (HUP.out _ bX)).mono ?_
  rintro e w2 ⟨rfl, hb2⟩
  have bX := bnd_call bX hs1 hb2
  clear z0 z1 zl hb2
  cases hF : fewT t
  · go_wp2_with fail
    refine (HC.out.awake (HUP.out _ bX)).mono ?_
    rintro e w3 ⟨rfl, hb3⟩
    have bX := bnd_call bX hs1 hb3
    go_wp2
    go_ret
    exact ⟨rfl, HUP.out _ bX⟩
  · have HCP := Lib.hid (fun (W : World) (hW : Below w.heap.size w W) => HC.out.cp hF hW)
    have HZ := Lib.hid (few_size hF)
    have HMK := Lib.hid (fun (b : Brn) (hb : b ∈ t.brs) => (by have := ((few_brs hF).2.2 b hb).2.2; omega : b.mark.size ≤ 100000))
    clear hF
    have H1 := Lib.hid (fun (x y : Value) (W : World) (hW : Below w.heap.size w W) (hr : TreRep W W.heap.size t x y) => Path_c t HZ.out a x y W _ (Nat.le_refl _) hr (HC.out.at_ hW).2.2)
    have H2 := Lib.hid (fun (W : World) (hW : Below w.heap.size w W) => rPath_c t HZ.out HMK.out a (.slice Ar t.roots.length cr) (.slice A t.brs.length ca) W B (HC.out.at_ hW).1 (HC.out.at_ hW).2.1)
    have H3 := Lib.hid (fun (x y : Value) (W : World) (hW : Below w.heap.size w W) (hr : TreRep W W.heap.size t x y) => Below_c t HZ.out a x y W _ (Nat.le_refl _) hr (HC.out.at_ hW).2.2)
    have H4 := Lib.hid (fun (W : World) (hW : Below w.heap.size w W) => rBelow_c t HZ.out HMK.out a (.slice Ar t.roots.length cr) (.slice A t.brs.length ca) W B (HC.out.at_ hW).1 (HC.out.at_ hW).2.1)
    have H5 := Lib.hid (fun (x y : Value) (W : World) (hW : Below w.heap.size w W) (hr : TreRep W W.heap.size t x y) => common_c t HZ.out a b x y W _ (Nat.le_refl _) hr (HC.out.at_ hW).2.2)
    have H6 := Lib.hid (fun (W : World) (hW : Below w.heap.size w W) => rCommon_c t HZ.out HMK.out a b (.slice Ar t.roots.length cr) (.slice A t.brs.length ca) W B (HC.out.at_ hW).1 (HC.out.at_ hW).2.1)
    generalize pathR t a = p at H1 H2
    generalize belR t a = l at H3 H4
    generalize comR t a b = x at H5 H6
    generalize knownE t [a, b] = kc at H5 H6
    generalize knownE t [a] = kp at H1 H2
    generalize orTopE t a = kb at H3 H4
    obtain ⟨z0, z1, zl⟩ := KC.out _ bX
    go_wp2_with fail
    refine (HCP.out _ (HUP.out _ bX)).mono ?_
    rintro e wc1 ⟨xc1, yc1, rfl, hrc1, hbc1⟩
    have bX := bnd_call bX hs1 hbc1
    clear z0 z1 zl hbc1
    go_wp2_with fail
    refine (H1.out _ _ _ (HUP.out _ bX) hrc1).mono ?_
    rintro e wr1 ⟨v1, rfl, hown1, hbr1⟩
    have bX := bnd_call bX hs1 hbr1
    clear hrc1
    have hp1 := hown1.toSl intS
    clear hown1
    obtain ⟨z0, z1, zl⟩ := KC.out _ bX
    go_wp2_with fail
    refine (H2.out _ (HUP.out _ bX)).mono ?_
    rintro e wr2 ⟨v2, rfl, hown2, hbr2⟩
    have bX := bnd_call bX hs1 hbr2
    have hp1 := (hp1.below intS hbr2).mono intS (hbr2).size
    clear z0 z1 zl
    have hp2 := hown2.toSl intS
    clear hown2
    obtain ⟨z0, z1, zl⟩ := KC.out _ bX
    go_wp2_with fail
    refine (HCP.out _ (HUP.out _ bX)).mono ?_
    rintro e wc3 ⟨xc3, yc3, rfl, hrc3, hbc3⟩
    have bX := bnd_call bX hs1 hbc3
    have hp1 := (hp1.below intS hbc3).mono intS (hbc3).size
    have hp2 := (hp2.below intS hbc3).mono intS (hbc3).size
    clear z0 z1 zl hbc3
    go_wp2_with fail
    refine (H3.out _ _ _ (HUP.out _ bX) hrc3).mono ?_
    rintro e wr3 ⟨v3, rfl, hown3, hbr3⟩
    have bX := bnd_call bX hs1 hbr3
    have hp1 := (hp1.below intS hbr3).mono intS (hbr3).size
    have hp2 := (hp2.below intS hbr3).mono intS (hbr3).size
    clear hrc3
    have hl3 := hown3.toSl intS
    clear hown3
    obtain ⟨z0, z1, zl⟩ := KC.out _ bX
    go_wp2_with fail
    refine (H4.out _ (HUP.out _ bX)).mono ?_
    rintro e wr4 ⟨v4, rfl, hown4, hbr4⟩
    have bX := bnd_call bX hs1 hbr4
    have hp1 := (hp1.below intS hbr4).mono intS (hbr4).size
    have hp2 := (hp2.below intS hbr4).mono intS (hbr4).size
    have hl3 := (hl3.below intS hbr4).mono intS (hbr4).size
    clear z0 z1 zl
    have hl4 := hown4.toSl intS
    clear hown4
    obtain ⟨z0, z1, zl⟩ := KC.out _ bX
    go_wp2_with fail
    refine (HCP.out _ (HUP.out _ bX)).mono ?_
    rintro e wc5 ⟨xc5, yc5, rfl, hrc5, hbc5⟩
    have bX := bnd_call bX hs1 hbc5
    have hp1 := (hp1.below intS hbc5).mono intS (hbc5).size
    have hp2 := (hp2.below intS hbc5).mono intS (hbc5).size
    have hl3 := (hl3.below intS hbc5).mono intS (hbc5).size
    have hl4 := (hl4.below intS hbc5).mono intS (hbc5).size
    clear z0 z1 zl hbc5
    go_wp2_with fail
    refine (H5.out _ _ _ (HUP.out _ bX) hrc5).mono ?_
    rintro e wr5 ⟨rfl, hbr5⟩
    have bX := bnd_call bX hs1 hbr5
    have hp1 := (hp1.below intS hbr5).mono intS (hbr5).size
    have hp2 := (hp2.below intS hbr5).mono intS (hbr5).size
    have hl3 := (hl3.below intS hbr5).mono intS (hbr5).size
    have hl4 := (hl4.below intS hbr5).mono intS (hbr5).size
    clear hrc5
    obtain ⟨z0, z1, zl⟩ := KC.out _ bX
    go_wp2_with fail
    refine (H6.out _ (HUP.out _ bX)).mono ?_
    rintro e wr6 ⟨rfl, hbr6⟩
    have bX := bnd_call bX hs1 hbr6
    have hp1 := (hp1.below intS hbr6).mono intS (hbr6).size
    have hp2 := (hp2.below intS hbr6).mono intS (hbr6).size
    have hl3 := (hl3.below intS hbr6).mono intS (hbr6).size
    have hl4 := (hl4.below intS hbr6).mono intS (hbr6).size
    clear z0 z1 zl
    have HE1 := Lib.hid (by
      have := eqInts_c p p _ _ wr6 _ _ hp1 hp2
      rwa [decide_eq_true rfl] at this : Calls Tryz.prog 24 #[v1, v2] wr6 fun e w' => e = .returned (.bool true) ∧ Below wr6.heap.size wr6 w')
    have HE2 := Lib.hid (fun (W : World) (hW : Below wr6.heap.size wr6 W) => (by
      have := eqInts_c l l _ _ W _ _ (hl3.below intS hW) (hl4.below intS hW)
      rwa [decide_eq_true rfl] at this : Calls Tryz.prog 24 #[v3, v4] W fun e w' => e = .returned (.bool true) ∧ Below W.heap.size W w'))
    obtain ⟨A1, c1, rfl, -⟩ := id hp1
    obtain ⟨A2, c2, rfl, -⟩ := id hp2
    obtain ⟨A3, c3, rfl, -⟩ := id hl3
    obtain ⟨A4, c4, rfl, -⟩ := id hl4
    clear hp1 hp2 hl3 hl4
    go_wp2_with fail
    refine HE1.out.mono ?_
    rintro e w7 ⟨rfl, hb7⟩
    have bX := bnd_call bX hs1 hb7
    go_wp2_with fail
    refine (HE2.out _ hb7).mono ?_
    rintro e w8 ⟨rfl, hb8⟩
    have bX := bnd_call bX hs1 hb8
    go_wp2
    go_ret
    exact ⟨rfl, HUP.out _ bX⟩
end Go.Proofs.YthbccfchjgihgaaGreatDoor
