/- TreeFinds returns true. -/
import Derived.Test.YthbccfchjgihgaaGreatDoorLbR
import Derived.Test.YthbccfchjgihgaaGreatDoorRfI
import Derived.Laws.StructEq
namespace Go.Proofs.YthbccfchjgihgaaGreatDoor
open Go.RowKit

theorem unt_eql (x : Brn) (w : World) : (binOp .eql 35 (.agg #[.int .i64 x.id, .int .i64 x.parent, .int .i64 x.level, .string x.title, .string x.mark]) (.agg #[.int .i64 x.id, .int .i64 x.parent, .int .i64 x.level, .string x.title, .string x.mark])).run Tryz.prog w = .ok (.bool true) w := by
  have hs : ∀ (d : Nat) (xs ys : Array Value), (Op.equalIn (d + 1) 35 (.agg xs) (.agg ys)).run Tryz.prog w = (Op.eqFields d xs ys (Tryz.prog.fieldsOf 35).toList).run Tryz.prog w := fun d xs ys => run_equalIn_struct w d 35 xs ys (by kernel_rfl) (by kernel_rfl)
  simp only [binOp]
  simp [Op.equal, Op.maxDepth, hs 9999, Program.fieldsOf, Tryz.underlying35, go_sem]
set_option maxRecDepth 100000 in
set_option maxHeartbeats 8000000 in
theorem finds_law (t : Tre) (u : Int) (m : ByteArray) (vr vb : Value) (w : World) (B : Nat) (hB : B ≤ w.heap.size) (h : TreRep w B t vr vb) (hV : VarOk w) :
    Calls Tryz.prog 4 #[treV vr vb, .int .i64 u, .string m] w fun e w' => e = .returned (.bool true) ∧ Below w.heap.size w w' := by
  have b1 := tre_new w vr vb
  have hs1 : w.heap.size + 1 ≤ (w.alloc (treC vr vb)).heap.size := by simp
  have HC := Lib.hid (show LawC t vr vb w B from ⟨hB, h, hV⟩)
  have KC := Lib.hid (fun (W : World) (hW : Below (w.heap.size + 1) (w.alloc (treC vr vb)) W) => treW_at hW)
  have HUP := Lib.hid (fun (W : World) (hW : Below (w.heap.size + 1) (w.alloc (treC vr vb)) W) => b1.trans (hW.mono (Nat.le_succ _)))
  obtain ⟨Ar, cr, rfl, -⟩ := id h.tops
  obtain ⟨A, ca, rfl, -⟩ := id h.brs
  have bX : Below (w.heap.size + 1) (w.alloc (treC (.slice Ar t.roots.length cr) (.slice A t.brs.length ca))) (w.alloc (treC (.slice Ar t.roots.length cr) (.slice A t.brs.length ca))) := Below.refl _ _
  clear h hV
  go_enter Tryz.func4, Tryz.ntmps4
  go_wp2_with fail
  refine (HC.out.awake (HUP.out _ bX)).mono ?_
  rintro e w1 ⟨rfl, hb1⟩
  have bX := bnd_call bX hs1 hb1
  obtain ⟨z0, z1, zl⟩ := KC.out _ bX
  clear hb1
  go_wp2_with fail
  refine (HC.out.few (HUP.out _ bX)).mono ?_
  rintro e w2 ⟨rfl, hb2⟩
  have bX := bnd_call bX hs1 hb2
  clear z0 z1 zl hb2
  cases hF : fewT t
  · go_wp2_with fail
    refine (HC.out.awake (HUP.out _ bX)).mono ?_
    rintro e w3 ⟨rfl, hb3⟩
    have bX := bnd_call bX hs1 hb3
    go_wp2
    go_ret
    exact ⟨rfl, HUP.out _ bX⟩
  · have HCP := Lib.hid (fun (W : World) (hW : Below w.heap.size w W) => HC.out.cp hF hW)
    have HZ := Lib.hid (few_size hF)
    have HMK := Lib.hid (fun (b : Brn) (hb : b ∈ t.brs) => (by have := ((few_brs hF).2.2 b hb).2.2; omega : b.mark.size ≤ 100000))
    clear hF
    have H1 := Lib.hid (fun (x y : Value) (W : World) (hW : Below w.heap.size w W) (hr : TreRep W W.heap.size t x y) => find_c t u x y W _ (Nat.le_refl _) hr)
    have H2 := Lib.hid (fun (W : World) (hW : Below w.heap.size w W) => rfind_c t u (.slice Ar t.roots.length cr) (.slice A t.brs.length ca) W B (HC.out.at_ hW).1 (HC.out.at_ hW).2.1)
    have H3 := Lib.hid (fun (x y : Value) (W : World) (hW : Below w.heap.size w W) (hr : TreRep W W.heap.size t x y) => marked_c t m x y W _ (Nat.le_refl _) hr)
    have H4 := Lib.hid (fun (W : World) (hW : Below w.heap.size w W) => rmarked_c t m (.slice Ar t.roots.length cr) (.slice A t.brs.length ca) W B (HC.out.at_ hW).1 (HC.out.at_ hW).2.1)
    have H5 := Lib.hid (fun (x y : Value) (W : World) (hW : Below w.heap.size w W) (hr : TreRep W W.heap.size t x y) => Kids_c t HZ.out u x y W _ (Nat.le_refl _) hr (HC.out.at_ hW).2.2)
    have H6 := Lib.hid (fun (W : World) (hW : Below w.heap.size w W) => rKids_c t HZ.out HMK.out u (.slice Ar t.roots.length cr) (.slice A t.brs.length ca) W B (HC.out.at_ hW).1 (HC.out.at_ hW).2.1)
    generalize (findU t.brs u).1 = x at H1 H2
    generalize (findU t.brs u).2 = bx at H1 H2
    generalize (markF t.brs m).1 = y at H3 H4
    generalize (markF t.brs m).2 = by_ at H3 H4
    generalize kidsR t u = ks at H5 H6
    generalize orTopE t u = ke at H5 H6
    have hne := fun W : World => unt_eql x W
    obtain ⟨z0, z1, zl⟩ := KC.out _ bX
    go_wp2_with fail
    refine (HCP.out _ (HUP.out _ bX)).mono ?_
    rintro e wc1 ⟨xc1, yc1, rfl, hrc1, hbc1⟩
    have bX := bnd_call bX hs1 hbc1
    clear z0 z1 zl hbc1
    go_wp2_with fail
    refine (H1.out _ _ _ (HUP.out _ bX) hrc1).mono ?_
    rintro e wr1 ⟨rfl, hbr1⟩
    have bX := bnd_call bX hs1 hbr1
    clear hrc1
    have bA1 := bX.alloc (Nat.le_trans hs1 bX.size) (untC x)
    have K1 := Lib.hid (fun (W : World) (hW : Below (wr1.heap.size + 1) (wr1.alloc (untC x)) W) => unt_cells ((hW.block wr1.heap.size (by omega)).trans (heap_newT wr1 (untC x))))
    have d1 : Below (wr1.heap.size + 1) (wr1.alloc (untC x)) (wr1.alloc (untC x)) := Below.refl _ _
    have hz1 : wr1.heap.size + 1 ≤ (wr1.alloc (untC x)).heap.size := by simp
    have bX := bA1
    clear bA1
    obtain ⟨z0, z1, zl⟩ := KC.out _ bX
    go_wp2_with fail
    refine (H2.out _ (HUP.out _ bX)).mono ?_
    rintro e wr2 ⟨rfl, hbr2⟩
    have bX := bnd_call bX hs1 hbr2
    have d1 := bnd_call d1 hz1 hbr2
    clear z0 z1 zl
    have d1 := d1.alloc (Nat.le_trans hz1 d1.size) (untC x)
    have bA2 := bX.alloc (Nat.le_trans hs1 bX.size) (untC x)
    have K2 := Lib.hid (fun (W : World) (hW : Below (wr2.heap.size + 1) (wr2.alloc (untC x)) W) => unt_cells ((hW.block wr2.heap.size (by omega)).trans (heap_newT wr2 (untC x))))
    have d2 : Below (wr2.heap.size + 1) (wr2.alloc (untC x)) (wr2.alloc (untC x)) := Below.refl _ _
    have hz2 : wr2.heap.size + 1 ≤ (wr2.alloc (untC x)).heap.size := by simp
    have bX := bA2
    clear bA2
    obtain ⟨z0, z1, zl⟩ := KC.out _ bX
    go_wp2_with fail
    refine (HCP.out _ (HUP.out _ bX)).mono ?_
    rintro e wc3 ⟨xc3, yc3, rfl, hrc3, hbc3⟩
    have bX := bnd_call bX hs1 hbc3
    have d1 := bnd_call d1 hz1 hbc3
    have d2 := bnd_call d2 hz2 hbc3
    clear z0 z1 zl hbc3
    go_wp2_with fail
    refine (H3.out _ _ _ (HUP.out _ bX) hrc3).mono ?_
    rintro e wr3 ⟨rfl, hbr3⟩
    have bX := bnd_call bX hs1 hbr3
    have d1 := bnd_call d1 hz1 hbr3
    have d2 := bnd_call d2 hz2 hbr3
    clear hrc3
    obtain ⟨z0, z1, zl⟩ := KC.out _ bX
    go_wp2_with fail
    refine (H4.out _ (HUP.out _ bX)).mono ?_
    rintro e wr4 ⟨rfl, hbr4⟩
    have bX := bnd_call bX hs1 hbr4
    have d1 := bnd_call d1 hz1 hbr4
    have d2 := bnd_call d2 hz2 hbr4
    clear z0 z1 zl
    obtain ⟨z0, z1, zl⟩ := KC.out _ bX
    go_wp2_with fail
    refine (HCP.out _ (HUP.out _ bX)).mono ?_
    rintro e wc5 ⟨xc5, yc5, rfl, hrc5, hbc5⟩
    have bX := bnd_call bX hs1 hbc5
    have d1 := bnd_call d1 hz1 hbc5
    have d2 := bnd_call d2 hz2 hbc5
    clear z0 z1 zl hbc5
    go_wp2_with fail
    refine (H5.out _ _ _ (HUP.out _ bX) hrc5).mono ?_
    rintro e wr5 ⟨v5, rfl, hown5, hbr5⟩
    have bX := bnd_call bX hs1 hbr5
    have d1 := bnd_call d1 hz1 hbr5
    have d2 := bnd_call d2 hz2 hbr5
    clear hrc5
    have hk := hown5.toSl intS
    clear hown5
    obtain ⟨z0, z1, zl⟩ := KC.out _ bX
    go_wp2_with fail
    refine (H6.out _ (HUP.out _ bX)).mono ?_
    rintro e wr6 ⟨v6, rfl, hown6, hbr6⟩
    have bX := bnd_call bX hs1 hbr6
    have d1 := bnd_call d1 hz1 hbr6
    have d2 := bnd_call d2 hz2 hbr6
    have hk := (hk.below intS hbr6).mono intS (hbr6).size
    clear z0 z1 zl
    have hl := hown6.toSl intS
    have HEQ := Lib.hid (by
      have := eqInts_c ks ks _ _ wr6 _ _ hk hl
      rwa [decide_eq_true rfl] at this : Calls Tryz.prog 24 #[v5, v6] wr6 fun e w' => e = .returned (.bool true) ∧ Below wr6.heap.size wr6 w')
    obtain ⟨A5, c5, rfl, -⟩ := id hk
    obtain ⟨A6, c6, rfl, -⟩ := id hl
    obtain ⟨p0, p1, p2, p3, p4, pl⟩ := K1.out _ d1
    obtain ⟨q0, q1, q2, q3, q4, ql⟩ := K2.out _ d2
    clear hk hl hown6
    cases bx
    all_goals
      cases by_
      all_goals
        go_wp2_with fail
        refine HEQ.out.mono ?_
        rintro e w7 ⟨rfl, hb7⟩
        have bX := bnd_call bX hs1 hb7
        go_wp2
        go_ret
        exact ⟨rfl, HUP.out _ bX⟩
end Go.Proofs.YthbccfchjgihgaaGreatDoor
