/- RelocateEither returns true. -/
import Derived.Test.YthabpkigflldmaaLaS
import Derived.Test.YthabpkigflldmaaCls
import Derived.Test.YthabpkigflldmaaEiA
import Derived.Test.YthabpkigflldmaaBnd
namespace Go.Proofs.Ythabpkigflldmaa
open Go.RowKit

set_option maxRecDepth 100000 in
set_option maxHeartbeats 8000000 in
theorem either_law (ls : List Shelf) (bs : List Box) (x0 x1 : List Int) (states : List (List Int)) (vl vb v0 v1 vs : Value) (w : World) (B : Nat) (hB : B ≤ w.heap.size) (hl : Shelves w B ls vl) (hbx : Boxes w B bs vb) (h0 : Ints w B x0 v0) (h1 : Ints w B x1 v1) (hs : States w B states vs) :
    Calls Try.prog 5 #[.agg #[vl, vb], .agg #[v0, v1], vs] w fun e w' => e = .returned (.bool true) ∧ Below w.heap.size w w' := by
  have b0 : Below w.heap.size w ((w.alloc (roomsC vl vb)).alloc (.cells #[v0, v1] 42)) := ((Below.refl _ _).alloc (Nat.le_refl _) _).alloc (by simp) _
  have ZK := Lib.hid (fun (W : World) (hW : Below (w.heap.size + 2) ((w.alloc (roomsC vl vb)).alloc (.cells #[v0, v1] 42)) W) => (⟨(hW.cell (p := ⟨w.heap.size, 0, none⟩) (by simp)).trans (by simp [World.cell?_alloc_lt, roomsC]), (hW.cell (p := ⟨w.heap.size, 1, none⟩) (by simp)).trans (by simp [World.cell?_alloc_lt, roomsC]), (hW.cell (p := ⟨w.heap.size + 1, 0, none⟩) (by simp)).trans (by simp), (hW.cell (p := ⟨w.heap.size + 1, 1, none⟩) (by simp)).trans (by simp), by have := hW.size; simp at this; omega⟩ : W.cell? ⟨w.heap.size, 0, none⟩ = some vl ∧ W.cell? ⟨w.heap.size, 1, none⟩ = some vb ∧ W.cell? ⟨w.heap.size + 1, 0, none⟩ = some v0 ∧ W.cell? ⟨w.heap.size + 1, 1, none⟩ = some v1 ∧ w.heap.size + 1 < W.heap.size))
  have HFW := Lib.hid (fun (W : World) (hW : Below w.heap.size w W) => few_c ls bs vl vb W B (Nat.le_trans hB hW.size) (hl.below shS (hW.mono hB)) (hbx.below boS (hW.mono hB)))
  have HCO := Lib.hid (fun (W : World) (hW : Below w.heap.size w W) => containsStB_c (fun x => decide (30 < x.length)) states vs W B (Nat.le_trans hB hW.size) (hs.below saS (hW.mono hB)) (fun x vx W' hW' hx => long2_c x vx W' B (Nat.le_trans hB (Nat.le_trans hW.size hW'.size)) hx))
  obtain ⟨A, c, rfl, hc1, hc2, _⟩ := id hl
  obtain ⟨A', c', rfl, hd1, hd2, _⟩ := id hbx
  obtain ⟨A0, c0, rfl, ha1, ha2, _⟩ := id h0
  obtain ⟨A1, c1, rfl, hb1, hb2, _⟩ := id h1
  obtain ⟨A3, c3, rfl, he1, he2, _⟩ := id hs
  go_enter Try.func5, Try.ntmps5
  go_wp2_with fail
  refine (awake_c _).mono ?_
  rintro e w1 ⟨rfl, hb1⟩
  simp only [World.size_alloc] at hb1
  have B1 := b0.trans (hb1.mono (by omega))
  obtain ⟨z0, z1, z2, z3, zl⟩ := ZK.out w1 hb1
  have zk : w.heap.size < w1.heap.size := by omega
  cases hfew : fewB ls bs
  · rw [hfew] at HFW
    clear hfew
    go_wp2_with fail
    refine (HFW.out _ B1).mono ?_
    rintro e w2 ⟨rfl, hb2⟩
    go_wp2
    go_ret
    exact ⟨rfl, B1.trans (hb2.mono B1.size)⟩
  · obtain ⟨f1, f2, f3⟩ := few_ok hfew
    rw [hfew] at HFW
    have HF3 := Lib.hid f3
    clear hfew f3
    have HY := Lib.hid (fun (w2 : World) (hb2 : Below w1.heap.size w1 w2) => ZK.out w2 (hb1.trans (hb2.mono (by omega))))
    by_cases h30 : x0.length ≤ 30
    · have hi : decide ((30 : Int) < (x0.length : Int)) = false := by simp; omega
      by_cases h31 : x1.length ≤ 30
      · have hj : decide ((30 : Int) < (x1.length : Int)) = false := by simp; omega
        by_cases h32 : states.length ≤ 300
        · have hk : decide ((300 : Int) < (states.length : Int)) = false := by simp; omega
          go_wp2_with fail
          refine (HFW.out _ B1).mono ?_
          rintro e w2 ⟨rfl, hb2⟩
          have b12 := hb1.trans (hb2.mono (by omega))
          have B2 := b0.trans (b12.mono (by omega))
          clear z0 z1 z2 z3 zl zk
          obtain ⟨z0, z1, z2, z3, zl⟩ := ZK.out w2 b12
          have zk : w.heap.size < w2.heap.size := by omega
          have HCX := Lib.hid (HCO.out w2 B2)
          cases hany : states.any (fun x => decide (30 < x.length))
          · rw [hany] at HCX
            clear hany
            go_wp2_with fail
            refine HCX.out.mono ?_
            rintro e w2' ⟨rfl, hb2'⟩
            have b12' := b12.trans (hb2'.mono (by omega))
            have B2' := b0.trans (b12'.mono (by omega))
            clear z0 z1 z2 z3 zl zk
            obtain ⟨z0, z1, z2, z3, zl⟩ := ZK.out w2' b12'
            have zk : w.heap.size < w2'.heap.size := by omega
            go_wp2_with fail
            refine (all_c ls bs _ _ w2' B (Nat.le_trans hB B2'.size) (hl.below shS (B2'.mono hB)) (hbx.below boS (B2'.mono hB)) (by omega) (by omega) (fun b hb => by have := HF3.out b hb; omega)).mono ?_
            rintro e w3 ⟨ul, ub, rfl, h3l, h3b, hb3⟩
            have b13 := b12'.trans (hb3.mono (by omega))
            have B3 := b0.trans (b13.mono (by omega))
            have hs3 := B3.size
            have LB3 : LB w3 ls bs ul ub := ⟨h3l, h3b⟩
            obtain ⟨Al, cl, rfl, -⟩ := id h3l
            obtain ⟨Ab, cb, rfl, -⟩ := id h3b
            clear z0 z1 z2 z3 zl zk h3l h3b
            obtain ⟨z0, z1, z2, z3, zl⟩ := ZK.out w3 b13
            have zk : w.heap.size < w3.heap.size := by omega
            have HC0 := Lib.hid (fun (W : World) (hW : Below w3.heap.size w3 W) => cloneI_c x0 (.slice A0 x0.length c0) W B (by have := hW.size; omega) (h0.below inS ((B3.trans (hW.mono hs3)).mono hB)) (by omega))
            have HC1 := Lib.hid (fun (W : World) (hW : Below w3.heap.size w3 W) => cloneI_c x1 (.slice A1 x1.length c1) W B (by have := hW.size; omega) (h1.below inS ((B3.trans (hW.mono hs3)).mono hB)) (by omega))
            have HPL := Lib.hid (fun (u0 u1 : Value) (W : World) (hW : Below w3.heap.size w3 W) (k0 : Ints W W.heap.size x0 u0) (k1 : Ints W W.heap.size x1 u1) => Plan_any ls bs x0 x1 _ _ u0 u1 W W.heap.size (Nat.le_refl _) (LB3.below hW).l (LB3.below hW).b k0 k1)
            have HRE := Lib.hid (fun (u0 : Value) (W : World) (hW : Below w3.heap.size w3 W) (k0 : Ints W W.heap.size x0 u0) => Reached_any ls bs x0 _ _ u0 W W.heap.size (Nat.le_refl _) (LB3.below hW).l (LB3.below hW).b k0)
            have KEEP := Lib.hid (fun (W : World) (hW : Below w3.heap.size w3 W) => (⟨(hW.cell (p := ⟨w.heap.size + 1, 0, none⟩) zl).trans z2, (hW.cell (p := ⟨w.heap.size + 1, 1, none⟩) zl).trans z3⟩ : W.cell? ⟨w.heap.size + 1, 0, none⟩ = some (.slice A0 x0.length c0) ∧ W.cell? ⟨w.heap.size + 1, 1, none⟩ = some (.slice A1 x1.length c1)))
            have hbX : Below w3.heap.size w3 w3.drew := (Below.refl _ _).drew
            clear HFW HCO HY HCX ZK
            go_wp2
            go_region_held3 (fun W => W.cell? ⟨w.heap.size + 1, 0, none⟩ = some (.slice A0 x0.length c0) ∧ W.cell? ⟨w.heap.size + 1, 1, none⟩ = some (.slice A1 x1.length c1)) (with_reducible exact KEEP.out _ hbX) (first
              | (go_at_call 13; (with_reducible refine (HPL.out _ _ _ hbX k0 k1).mono ?_); rintro e wP ⟨vP, rfl, hb'⟩; have hbX := hbX.trans (hb'.mono hbX.size))
              | (go_at_call 14; (with_reducible refine (HC0.out _ hbX).mono ?_); rintro e wC ⟨vC, rfl, hownC, hb'⟩; have k0 := hownC.toSl inS; obtain ⟨AC, cC, rfl, -⟩ := id k0; have hbX := hbX.trans (hb'.mono hbX.size); have HC0' := HC0; clear HC0)
              | (go_at_call 14; (with_reducible refine (HC1.out _ hbX).mono ?_); rintro e wD ⟨vD, rfl, hownD, hb'⟩; have k1 := hownD.toSl inS; obtain ⟨AD, cD, rfl, -⟩ := id k1; have k0 := (k0.below inS hb').mono inS hb'.size; have hbX := hbX.trans (hb'.mono hbX.size)))
            obtain ⟨q2, q3⟩ := KEEP.out _ hbX
            have hsX := hbX.size
            have zP : w.heap.size + 1 < wP.heap.size := by omega
            go_wp2_with fail
            refine (HC0'.out _ hbX).mono ?_
            rintro e wE ⟨vE, rfl, hownE, hbE⟩
            have kE := hownE.toSl inS
            obtain ⟨AE, cE, rfl, -⟩ := id kE
            have bE := hbX.trans (hbE.mono hsX)
            clear hownE
            go_wp2_with fail
            refine (HRE.out _ wE bE kE).mono ?_
            rintro e wR ⟨ys, AR, cR, rfl, hys, hpm, hbR⟩
            have bR := bE.trans (hbR.mono bE.size)
            have BR := B3.trans (bR.mono hs3)
            by_cases hp0 : possE ls bs x0 = 0
            · by_cases hp1 : possE ls bs x1 = 0
              · rw [hp0]
                obtain ⟨hperm, hasc⟩ := hpm hp0
                have hhas := reached_has hp0 hperm
                have HNO := Lib.hid (fun (hpl : planF ls bs x0 x1 = none) => closed_yes hp0 hp1 hpl hperm hasc)
                have HYE := Lib.hid (fun (p : List Carry) (hpl : planF ls bs x0 x1 = some p) (zs : List (List Int)) => closed_not hp0 hp1 hpl zs)
                have hE : (plE ls bs x0 x1 = 24 ∧ Hid (closedE ls bs x0 x1 ys = 0)) ∨ (plE ls bs x0 x1 = 0 ∧ Hid (closedE ls bs x0 x1 ys = 14 ∧ closedE ls bs x0 x1 states = 14)) := by
                  cases hpl : planF ls bs x0 x1 with
                  | none => exact .inl ⟨by simp [plE, hp0, hp1, hpl], Lib.hid (HNO.out hpl)⟩
                  | some p => exact .inr ⟨by simp [plE, hp0, hp1, hpl], Lib.hid ⟨HYE.out p hpl ys, HYE.out p hpl states⟩⟩
                clear hpm hperm hasc HNO HYE hp0 hp1
                obtain ⟨q4, q5⟩ := KEEP.out _ bR
                have hsR := bR.size
                have zR : w.heap.size + 1 < wR.heap.size := by omega
                have HCT := Lib.hid (containsStC_c (.pointer (some ⟨w.heap.size + 1, 0, none⟩)) (fun y => eqL eqI y x0) ys _ wR wR.heap.size (Nat.le_refl _) hys (fun y vy W hW hy => same2_c x0 y (.slice A0 x0.length c0) vy (w.heap.size + 1) W wR.heap.size hW.size (((h0.below inS (BR.mono hB)).mono inS (by have := BR.size; omega)).below inS hW) hy ((hW.cell (p := ⟨w.heap.size + 1, 0, none⟩) zR).trans q4)))
                rw [show ys.any (fun y => eqL eqI y x0) = true from hhas] at HCT
                clear hhas
                have HCLO := Lib.hid (fun (zs : List (List Int)) (u0 u1 us : Value) (W : World) (hW : Below w3.heap.size w3 W) (k0 : Ints W W.heap.size x0 u0) (k1 : Ints W W.heap.size x1 u1) (ks : States W W.heap.size zs us) => Closed_c ls bs x0 x1 zs _ _ u0 u1 us W W.heap.size (Nat.le_refl _) (LB3.below hW).l (LB3.below hW).b k0 k1 ks)
                have HCS := Lib.hid (fun (W : World) (hW : Below w3.heap.size w3 W) => cloneS_c states (.slice A3 states.length c3) W B (by have := hW.size; omega) (hs.below saS ((B3.trans (hW.mono hs3)).mono hB)) (by omega))
                rcases hE with ⟨hE, HZ⟩ | ⟨hE, HZ⟩
                · rw [hE]
                  clear hE
                  go_wp2_with fail
                  refine HCT.out.mono ?_
                  rintro e wT ⟨rfl, hbT⟩
                  have bT := bR.trans (hbT.mono hsR)
                  have BT := B3.trans (bT.mono hs3)
                  have kYT := Bnd.of ((hys.below saS hbT).mono saS hbT.size) saS
                  have kY := kYT.drew saS
                  have kYA := (kYT.alloc saS (.cells #[.slice none 0 0, .slice none 0 0] 46)).drew saS
                  have uT : wT.heap.size < (wT.alloc (.cells #[.slice none 0 0, .slice none 0 0] 46)).heap.size := by simp
                  have hbX : Below w3.heap.size w3 wT.drew := bT.drew
                  have hbXA : Below w3.heap.size w3 (wT.alloc (.cells #[.slice none 0 0, .slice none 0 0] 46)).drew := (bnd_alloc bT (Nat.le_refl _) _).drew
                  clear HCT hys k0 k1 kE kYT hbT
                  go_wp2
                  go_region_held3 (fun W => W.cell? ⟨w.heap.size + 1, 0, none⟩ = some (.slice A0 x0.length c0) ∧ W.cell? ⟨w.heap.size + 1, 1, none⟩ = some (.slice A1 x1.length c1)) (first | with_reducible exact KEEP.out _ hbX | with_reducible exact KEEP.out _ hbXA | with_reducible exact KEEP.out _ (bnd_alloc hbX (Nat.le_refl _) _) | with_reducible exact KEEP.out _ (bnd_set2 hbX yb)) (first
                    | (go_at_call 14; (with_reducible refine (HC0'.out _ hbX).mono ?_); rintro e wC ⟨vC, rfl, hownC, hb'⟩; have k0 := Bnd.of (hownC.toSl inS) inS; obtain ⟨AC, cC, rfl, -⟩ := id (hownC.toSl inS); have kY := kY.call saS hb'; have uY := hb'.size; have hbX := bnd_call hbX (Nat.le_refl _) hb'; clear HC0' hownC; have tokA : True := trivial)
                    | (go_at_call 14; (with_reducible refine (HC0'.out _ hbXA).mono ?_); rintro e wC ⟨vC, rfl, hownC, hb'⟩; have k0 := Bnd.own hownC inS; obtain ⟨AC, cC, rfl, -⟩ := id (hownC.toSl inS); have kY := kYA.call saS hb'; have hbX := bnd_call hbXA (Nat.le_refl _) hb'; have yy := bnd_twoD hb'; have uU := yy.2.2.2.2; have yb := bT.size; clear HC0' hownC; have tokB : True := trivial)
                    | (go_at_call 14; clear tokB; (with_reducible refine (HC1.out _ hbX).mono ?_); rintro e wD ⟨vD, rfl, hownD, hb'⟩; have k1 := Bnd.own hownD inS; obtain ⟨AD, cD, rfl, -⟩ := id (hownD.toSl inS); have k0 := k0.call inS hb'; have kY := kY.call saS hb'; have yy := bnd_keep yy hb'; have hbX := bnd_call hbX (Nat.le_refl _) hb'; have tokC : True := trivial)
                    | (go_at_call 14; clear tokA; (with_reducible refine (HC1.out _ hbX).mono ?_); rintro e wD ⟨vD, rfl, hownD, hb'⟩; have k1 := Bnd.of (hownD.toSl inS) inS; obtain ⟨AD, cD, rfl, -⟩ := id (hownD.toSl inS); have k0 := k0.call inS hb'; have kY := kY.call saS hb'; have hbX := bnd_call hbX (Nat.le_refl _) hb'; have tokD : True := trivial)
                    | (go_at_call 14; clear tokA; (with_reducible refine (HC1.out _ (bnd_alloc hbX (Nat.le_refl _) _)).mono ?_); rintro e wD ⟨vD, rfl, hownD, hb'⟩; have k1 := Bnd.own hownD inS; obtain ⟨AD, cD, rfl, -⟩ := id (hownD.toSl inS); have k0 := k0.callA inS hb'; have kY := kY.callA saS hb'; have yy := bnd_two hb'; have yb := hbX.size; have hbX := bnd_call (bnd_alloc hbX (Nat.le_refl _) _) (Nat.le_refl _) hb'; have tokE : True := trivial))
                  · have p0 : (wD.alloc (.cells #[.slice AC x0.length cC, .slice AD x1.length cD] 46)).cell? ⟨wD.heap.size, 0, none⟩ = some (.slice AC x0.length cC) := by simp
                    have p1 : (wD.alloc (.cells #[.slice AC x0.length cC, .slice AD x1.length cD] 46)).cell? ⟨wD.heap.size, 1, none⟩ = some (.slice AD x1.length cD) := by simp
                    have pg : wD.heap.size < (wD.alloc (.cells #[.slice AC x0.length cC, .slice AD x1.length cD] 46)).heap.size := by simp
                    have pB := bnd_alloc hbX (Nat.le_refl _) (.cells #[.slice AC x0.length cC, .slice AD x1.length cD] 46)
                    have pk0 := (k0.alloc inS (.cells #[.slice AC x0.length cC, .slice AD x1.length cD] 46)).sl inS
                    have pk1 := (k1.alloc inS (.cells #[.slice AC x0.length cC, .slice AD x1.length cD] 46)).sl inS
                    have pkY := (kY.alloc saS (.cells #[.slice AC x0.length cC, .slice AD x1.length cD] 46)).sl saS
                    generalize wD.alloc (.cells #[.slice AC x0.length cC, .slice AD x1.length cD] 46) = W12 at *
                    have HX := Lib.hid (HCLO.out ys _ _ _ W12 pB pk0 pk1 pkY)
                    rw [HZ.out] at HX
                    go_wp2_with fail
                    refine HX.out.mono ?_
                    rintro e w13 ⟨rfl, hb13⟩
                    go_wp2
                    go_ret
                    exact ⟨rfl, B3.trans ((bnd_call pB (Nat.le_refl _) hb13).mono hs3)⟩
                  · obtain ⟨p0, p1⟩ := set2_all wD wC.heap.size (.slice AC x0.length cC) (.slice AD x1.length cD) _ _ yy.1 yy.2.1
                    have pg : wC.heap.size < ((wD.setCell ⟨wC.heap.size, 0, none⟩ (.slice AC x0.length cC)).setCell ⟨wC.heap.size, 1, none⟩ (.slice AD x1.length cD)).heap.size := by simpa [World.setCell] using yy.2.2.2.2
                    have pB := bnd_set2 (x := .slice AC x0.length cC) (y := .slice AD x1.length cD) hbX yb
                    have pk0 := (k0.two inS (g := wC.heap.size) (.inl (Nat.le_refl _)) (.slice AC x0.length cC) (.slice AD x1.length cD)).sl inS
                    have pk1 := (k1.two inS (g := wC.heap.size) (.inr (by simp)) (.slice AC x0.length cC) (.slice AD x1.length cD)).sl inS
                    have pkY := (kY.two saS (g := wC.heap.size) (.inl (uY)) (.slice AC x0.length cC) (.slice AD x1.length cD)).sl saS
                    generalize (wD.setCell ⟨wC.heap.size, 0, none⟩ (.slice AC x0.length cC)).setCell ⟨wC.heap.size, 1, none⟩ (.slice AD x1.length cD) = W12 at *
                    have HX := Lib.hid (HCLO.out ys _ _ _ W12 pB pk0 pk1 pkY)
                    rw [HZ.out] at HX
                    go_wp2_with fail
                    refine HX.out.mono ?_
                    rintro e w13 ⟨rfl, hb13⟩
                    go_wp2
                    go_ret
                    exact ⟨rfl, B3.trans ((bnd_call pB (Nat.le_refl _) hb13).mono hs3)⟩
                  · obtain ⟨p0, p1⟩ := set2_all wD wT.heap.size (.slice AC x0.length cC) (.slice AD x1.length cD) _ _ yy.1 yy.2.1
                    have pg : wT.heap.size < ((wD.setCell ⟨wT.heap.size, 0, none⟩ (.slice AC x0.length cC)).setCell ⟨wT.heap.size, 1, none⟩ (.slice AD x1.length cD)).heap.size := by simpa [World.setCell] using yy.2.2.2.2
                    have pB := bnd_set2 (x := .slice AC x0.length cC) (y := .slice AD x1.length cD) hbX yb
                    have pk0 := (k0.two inS (g := wT.heap.size) (.inr uT) (.slice AC x0.length cC) (.slice AD x1.length cD)).sl inS
                    have pk1 := (k1.two inS (g := wT.heap.size) (.inr uU) (.slice AC x0.length cC) (.slice AD x1.length cD)).sl inS
                    have pkY := (kY.two saS (g := wT.heap.size) (.inl (Nat.le_refl _)) (.slice AC x0.length cC) (.slice AD x1.length cD)).sl saS
                    generalize (wD.setCell ⟨wT.heap.size, 0, none⟩ (.slice AC x0.length cC)).setCell ⟨wT.heap.size, 1, none⟩ (.slice AD x1.length cD) = W12 at *
                    have HX := Lib.hid (HCLO.out ys _ _ _ W12 pB pk0 pk1 pkY)
                    rw [HZ.out] at HX
                    go_wp2_with fail
                    refine HX.out.mono ?_
                    rintro e w13 ⟨rfl, hb13⟩
                    go_wp2
                    go_ret
                    exact ⟨rfl, B3.trans ((bnd_call pB (Nat.le_refl _) hb13).mono hs3)⟩
                · rw [hE]
                  clear hE
                  go_wp2_with fail
                  refine HCT.out.mono ?_
                  rintro e wT ⟨rfl, hbT⟩
                  have bT := bR.trans (hbT.mono hsR)
                  have BT := B3.trans (bT.mono hs3)
                  have kYT := Bnd.of ((hys.below saS hbT).mono saS hbT.size) saS
                  have kY := kYT.drew saS
                  have kYA := (kYT.alloc saS (.cells #[.slice none 0 0, .slice none 0 0] 46)).drew saS
                  have uT : wT.heap.size < (wT.alloc (.cells #[.slice none 0 0, .slice none 0 0] 46)).heap.size := by simp
                  have hbX : Below w3.heap.size w3 wT.drew := bT.drew
                  have hbXA : Below w3.heap.size w3 (wT.alloc (.cells #[.slice none 0 0, .slice none 0 0] 46)).drew := (bnd_alloc bT (Nat.le_refl _) _).drew
                  clear HCT hys k0 k1 kE kYT hbT
                  go_wp2
                  go_region_held3 (fun W => W.cell? ⟨w.heap.size + 1, 0, none⟩ = some (.slice A0 x0.length c0) ∧ W.cell? ⟨w.heap.size + 1, 1, none⟩ = some (.slice A1 x1.length c1)) (first | with_reducible exact KEEP.out _ hbX | with_reducible exact KEEP.out _ hbXA | with_reducible exact KEEP.out _ (bnd_alloc hbX (Nat.le_refl _) _) | with_reducible exact KEEP.out _ (bnd_set2 hbX yb)) (first
                    | (go_at_call 14; (with_reducible refine (HC0'.out _ hbX).mono ?_); rintro e wC ⟨vC, rfl, hownC, hb'⟩; have k0 := Bnd.of (hownC.toSl inS) inS; obtain ⟨AC, cC, rfl, -⟩ := id (hownC.toSl inS); have kY := kY.call saS hb'; have uY := hb'.size; have hbX := bnd_call hbX (Nat.le_refl _) hb'; clear HC0' hownC; have tokA : True := trivial)
                    | (go_at_call 14; (with_reducible refine (HC0'.out _ hbXA).mono ?_); rintro e wC ⟨vC, rfl, hownC, hb'⟩; have k0 := Bnd.own hownC inS; obtain ⟨AC, cC, rfl, -⟩ := id (hownC.toSl inS); have kY := kYA.call saS hb'; have hbX := bnd_call hbXA (Nat.le_refl _) hb'; have yy := bnd_twoD hb'; have uU := yy.2.2.2.2; have yb := bT.size; clear HC0' hownC; have tokB : True := trivial)
                    | (go_at_call 14; clear tokB; (with_reducible refine (HC1.out _ hbX).mono ?_); rintro e wD ⟨vD, rfl, hownD, hb'⟩; have k1 := Bnd.own hownD inS; obtain ⟨AD, cD, rfl, -⟩ := id (hownD.toSl inS); have k0 := k0.call inS hb'; have kY := kY.call saS hb'; have yy := bnd_keep yy hb'; have hbX := bnd_call hbX (Nat.le_refl _) hb'; have tokC : True := trivial)
                    | (go_at_call 14; clear tokA; (with_reducible refine (HC1.out _ hbX).mono ?_); rintro e wD ⟨vD, rfl, hownD, hb'⟩; have k1 := Bnd.of (hownD.toSl inS) inS; obtain ⟨AD, cD, rfl, -⟩ := id (hownD.toSl inS); have k0 := k0.call inS hb'; have kY := kY.call saS hb'; have hbX := bnd_call hbX (Nat.le_refl _) hb'; have tokD : True := trivial)
                    | (go_at_call 14; clear tokA; (with_reducible refine (HC1.out _ (bnd_alloc hbX (Nat.le_refl _) _)).mono ?_); rintro e wD ⟨vD, rfl, hownD, hb'⟩; have k1 := Bnd.own hownD inS; obtain ⟨AD, cD, rfl, -⟩ := id (hownD.toSl inS); have k0 := k0.callA inS hb'; have kY := kY.callA saS hb'; have yy := bnd_two hb'; have yb := hbX.size; have hbX := bnd_call (bnd_alloc hbX (Nat.le_refl _) _) (Nat.le_refl _) hb'; have tokE : True := trivial))
                  · have p0 : (wD.alloc (.cells #[.slice AC x0.length cC, .slice AD x1.length cD] 46)).cell? ⟨wD.heap.size, 0, none⟩ = some (.slice AC x0.length cC) := by simp
                    have p1 : (wD.alloc (.cells #[.slice AC x0.length cC, .slice AD x1.length cD] 46)).cell? ⟨wD.heap.size, 1, none⟩ = some (.slice AD x1.length cD) := by simp
                    have pg : wD.heap.size < (wD.alloc (.cells #[.slice AC x0.length cC, .slice AD x1.length cD] 46)).heap.size := by simp
                    have pB := bnd_alloc hbX (Nat.le_refl _) (.cells #[.slice AC x0.length cC, .slice AD x1.length cD] 46)
                    have pk0 := (k0.alloc inS (.cells #[.slice AC x0.length cC, .slice AD x1.length cD] 46)).sl inS
                    have pk1 := (k1.alloc inS (.cells #[.slice AC x0.length cC, .slice AD x1.length cD] 46)).sl inS
                    have pkY := (kY.alloc saS (.cells #[.slice AC x0.length cC, .slice AD x1.length cD] 46)).sl saS
                    generalize wD.alloc (.cells #[.slice AC x0.length cC, .slice AD x1.length cD] 46) = W12 at *
                    have HX := Lib.hid (fun (W : World) (hW : Below W12.heap.size W12 W) => HCLO.out ys _ _ _ W (bnd_call pB (Nat.le_refl _) hW) ((pk0.below inS hW).mono inS hW.size) ((pk1.below inS hW).mono inS hW.size) ((pkY.below saS hW).mono saS hW.size))
                    have HV := Lib.hid (fun (us : Value) (W : World) (hW : Below W12.heap.size W12 W) (ks : States W W.heap.size states us) => HCLO.out states _ _ us W (bnd_call pB (Nat.le_refl _) hW) ((pk0.below inS hW).mono inS hW.size) ((pk1.below inS hW).mono inS hW.size) ks)
                    have HSX := Lib.hid (fun (W : World) (hW : Below W12.heap.size W12 W) => HCS.out W (bnd_call pB (Nat.le_refl _) hW))
                    rw [HZ.out.1] at HX
                    rw [HZ.out.2] at HV
                    have KEEP2 := Lib.hid (fun (W : World) (hW : Below W12.heap.size W12 W) => (⟨(hW.cell (p := ⟨wD.heap.size, 0, none⟩) pg).trans p0, (hW.cell (p := ⟨wD.heap.size, 1, none⟩) pg).trans p1⟩ : W.cell? ⟨wD.heap.size, 0, none⟩ = some (.slice AC x0.length cC) ∧ W.cell? ⟨wD.heap.size, 1, none⟩ = some (.slice AD x1.length cD)))
                    have hbY : Below W12.heap.size W12 W12.drew := (Below.refl _ _).drew
                    clear HCLO HCS p0 p1
                    go_wp2
                    go_region_held3 (fun W => W.cell? ⟨wD.heap.size, 0, none⟩ = some (.slice AC x0.length cC) ∧ W.cell? ⟨wD.heap.size, 1, none⟩ = some (.slice AD x1.length cD)) (with_reducible exact KEEP2.out _ hbY) (first
                      | (go_at_call 22; (with_reducible refine (HX.out _ hbY).mono ?_); rintro e wP ⟨rfl, hb'⟩; have hbY := bnd_call hbY (Nat.le_refl _) hb')
                      | (go_at_call 23; (with_reducible refine (HSX.out _ hbY).mono ?_); rintro e wS ⟨vS, rfl, hownS, hb'⟩; have kS := hownS.toSl saS; have hbY := bnd_call hbY (Nat.le_refl _) hb')
                      | (go_at_call 22; (with_reducible refine (HV.out _ _ hbY kS).mono ?_); rintro e wQ ⟨rfl, hb'⟩; have hbY := bnd_call hbY (Nat.le_refl _) hb'))
                    all_goals go_wp2
                    all_goals go_ret
                    all_goals exact ⟨rfl, B3.trans ((bnd_call pB (Nat.le_refl _) hbY).mono hs3)⟩
                  · obtain ⟨p0, p1⟩ := set2_all wD wC.heap.size (.slice AC x0.length cC) (.slice AD x1.length cD) _ _ yy.1 yy.2.1
                    have pg : wC.heap.size < ((wD.setCell ⟨wC.heap.size, 0, none⟩ (.slice AC x0.length cC)).setCell ⟨wC.heap.size, 1, none⟩ (.slice AD x1.length cD)).heap.size := by simpa [World.setCell] using yy.2.2.2.2
                    have pB := bnd_set2 (x := .slice AC x0.length cC) (y := .slice AD x1.length cD) hbX yb
                    have pk0 := (k0.two inS (g := wC.heap.size) (.inl (Nat.le_refl _)) (.slice AC x0.length cC) (.slice AD x1.length cD)).sl inS
                    have pk1 := (k1.two inS (g := wC.heap.size) (.inr (by simp)) (.slice AC x0.length cC) (.slice AD x1.length cD)).sl inS
                    have pkY := (kY.two saS (g := wC.heap.size) (.inl (uY)) (.slice AC x0.length cC) (.slice AD x1.length cD)).sl saS
                    generalize (wD.setCell ⟨wC.heap.size, 0, none⟩ (.slice AC x0.length cC)).setCell ⟨wC.heap.size, 1, none⟩ (.slice AD x1.length cD) = W12 at *
                    have HX := Lib.hid (fun (W : World) (hW : Below W12.heap.size W12 W) => HCLO.out ys _ _ _ W (bnd_call pB (Nat.le_refl _) hW) ((pk0.below inS hW).mono inS hW.size) ((pk1.below inS hW).mono inS hW.size) ((pkY.below saS hW).mono saS hW.size))
                    have HV := Lib.hid (fun (us : Value) (W : World) (hW : Below W12.heap.size W12 W) (ks : States W W.heap.size states us) => HCLO.out states _ _ us W (bnd_call pB (Nat.le_refl _) hW) ((pk0.below inS hW).mono inS hW.size) ((pk1.below inS hW).mono inS hW.size) ks)
                    have HSX := Lib.hid (fun (W : World) (hW : Below W12.heap.size W12 W) => HCS.out W (bnd_call pB (Nat.le_refl _) hW))
                    rw [HZ.out.1] at HX
                    rw [HZ.out.2] at HV
                    have KEEP2 := Lib.hid (fun (W : World) (hW : Below W12.heap.size W12 W) => (⟨(hW.cell (p := ⟨wC.heap.size, 0, none⟩) pg).trans p0, (hW.cell (p := ⟨wC.heap.size, 1, none⟩) pg).trans p1⟩ : W.cell? ⟨wC.heap.size, 0, none⟩ = some (.slice AC x0.length cC) ∧ W.cell? ⟨wC.heap.size, 1, none⟩ = some (.slice AD x1.length cD)))
                    have hbY : Below W12.heap.size W12 W12.drew := (Below.refl _ _).drew
                    clear HCLO HCS p0 p1
                    go_wp2
                    go_region_held3 (fun W => W.cell? ⟨wC.heap.size, 0, none⟩ = some (.slice AC x0.length cC) ∧ W.cell? ⟨wC.heap.size, 1, none⟩ = some (.slice AD x1.length cD)) (with_reducible exact KEEP2.out _ hbY) (first
                      | (go_at_call 22; (with_reducible refine (HX.out _ hbY).mono ?_); rintro e wP ⟨rfl, hb'⟩; have hbY := bnd_call hbY (Nat.le_refl _) hb')
                      | (go_at_call 23; (with_reducible refine (HSX.out _ hbY).mono ?_); rintro e wS ⟨vS, rfl, hownS, hb'⟩; have kS := hownS.toSl saS; have hbY := bnd_call hbY (Nat.le_refl _) hb')
                      | (go_at_call 22; (with_reducible refine (HV.out _ _ hbY kS).mono ?_); rintro e wQ ⟨rfl, hb'⟩; have hbY := bnd_call hbY (Nat.le_refl _) hb'))
                    all_goals go_wp2
                    all_goals go_ret
                    all_goals exact ⟨rfl, B3.trans ((bnd_call pB (Nat.le_refl _) hbY).mono hs3)⟩
                  · obtain ⟨p0, p1⟩ := set2_all wD wT.heap.size (.slice AC x0.length cC) (.slice AD x1.length cD) _ _ yy.1 yy.2.1
                    have pg : wT.heap.size < ((wD.setCell ⟨wT.heap.size, 0, none⟩ (.slice AC x0.length cC)).setCell ⟨wT.heap.size, 1, none⟩ (.slice AD x1.length cD)).heap.size := by simpa [World.setCell] using yy.2.2.2.2
                    have pB := bnd_set2 (x := .slice AC x0.length cC) (y := .slice AD x1.length cD) hbX yb
                    have pk0 := (k0.two inS (g := wT.heap.size) (.inr uT) (.slice AC x0.length cC) (.slice AD x1.length cD)).sl inS
                    have pk1 := (k1.two inS (g := wT.heap.size) (.inr uU) (.slice AC x0.length cC) (.slice AD x1.length cD)).sl inS
                    have pkY := (kY.two saS (g := wT.heap.size) (.inl (Nat.le_refl _)) (.slice AC x0.length cC) (.slice AD x1.length cD)).sl saS
                    generalize (wD.setCell ⟨wT.heap.size, 0, none⟩ (.slice AC x0.length cC)).setCell ⟨wT.heap.size, 1, none⟩ (.slice AD x1.length cD) = W12 at *
                    have HX := Lib.hid (fun (W : World) (hW : Below W12.heap.size W12 W) => HCLO.out ys _ _ _ W (bnd_call pB (Nat.le_refl _) hW) ((pk0.below inS hW).mono inS hW.size) ((pk1.below inS hW).mono inS hW.size) ((pkY.below saS hW).mono saS hW.size))
                    have HV := Lib.hid (fun (us : Value) (W : World) (hW : Below W12.heap.size W12 W) (ks : States W W.heap.size states us) => HCLO.out states _ _ us W (bnd_call pB (Nat.le_refl _) hW) ((pk0.below inS hW).mono inS hW.size) ((pk1.below inS hW).mono inS hW.size) ks)
                    have HSX := Lib.hid (fun (W : World) (hW : Below W12.heap.size W12 W) => HCS.out W (bnd_call pB (Nat.le_refl _) hW))
                    rw [HZ.out.1] at HX
                    rw [HZ.out.2] at HV
                    have KEEP2 := Lib.hid (fun (W : World) (hW : Below W12.heap.size W12 W) => (⟨(hW.cell (p := ⟨wT.heap.size, 0, none⟩) pg).trans p0, (hW.cell (p := ⟨wT.heap.size, 1, none⟩) pg).trans p1⟩ : W.cell? ⟨wT.heap.size, 0, none⟩ = some (.slice AC x0.length cC) ∧ W.cell? ⟨wT.heap.size, 1, none⟩ = some (.slice AD x1.length cD)))
                    have hbY : Below W12.heap.size W12 W12.drew := (Below.refl _ _).drew
                    clear HCLO HCS p0 p1
                    go_wp2
                    go_region_held3 (fun W => W.cell? ⟨wT.heap.size, 0, none⟩ = some (.slice AC x0.length cC) ∧ W.cell? ⟨wT.heap.size, 1, none⟩ = some (.slice AD x1.length cD)) (with_reducible exact KEEP2.out _ hbY) (first
                      | (go_at_call 22; (with_reducible refine (HX.out _ hbY).mono ?_); rintro e wP ⟨rfl, hb'⟩; have hbY := bnd_call hbY (Nat.le_refl _) hb')
                      | (go_at_call 23; (with_reducible refine (HSX.out _ hbY).mono ?_); rintro e wS ⟨vS, rfl, hownS, hb'⟩; have kS := hownS.toSl saS; have hbY := bnd_call hbY (Nat.le_refl _) hb')
                      | (go_at_call 22; (with_reducible refine (HV.out _ _ hbY kS).mono ?_); rintro e wQ ⟨rfl, hb'⟩; have hbY := bnd_call hbY (Nat.le_refl _) hb'))
                    all_goals go_wp2
                    all_goals go_ret
                    all_goals exact ⟨rfl, B3.trans ((bnd_call pB (Nat.le_refl _) hbY).mono hs3)⟩
              · have hE : plE ls bs x0 x1 = possE ls bs x1 := by simp [plE, hp0, hp1]
                rw [hE]
                have n1 : (possE ls bs x1 != 0) = true := by simp [hp1]
                have n2 : (possE ls bs x1 != 24) = true := by simpa using poss_ne
                clear hE hp0 hp1 hpm hys
                go_wp2
                go_ret
                exact ⟨rfl, BR⟩
            · have hE : plE ls bs x0 x1 = possE ls bs x0 := by simp [plE, hp0]
              rw [hE]
              have n1 : (possE ls bs x0 != 0) = true := by simp [hp0]
              have n2 : (possE ls bs x0 != 24) = true := by simpa using poss_ne
              clear hE hp0 hpm hys
              go_wp2
              go_ret
              exact ⟨rfl, BR⟩
          · rw [hany] at HCX
            clear hany
            go_wp2_with fail
            refine HCX.out.mono ?_
            rintro e w3 ⟨rfl, hb3⟩
            go_wp2
            go_ret
            exact ⟨rfl, B2.trans (hb3.mono B2.size)⟩
        · have hk : decide ((300 : Int) < (states.length : Int)) = true := by simp; omega
          go_wp2_with fail
          refine (HFW.out _ B1).mono ?_
          rintro e w2 ⟨rfl, hb2⟩
          obtain ⟨q0, q1, q2, q3, ql⟩ := HY.out w2 hb2
          have qk : w.heap.size < w2.heap.size := by omega
          go_wp2
          go_ret
          exact ⟨rfl, B1.trans (hb2.mono B1.size)⟩
      · have hj : decide ((30 : Int) < (x1.length : Int)) = true := by simp; omega
        go_wp2_with fail
        refine (HFW.out _ B1).mono ?_
        rintro e w2 ⟨rfl, hb2⟩
        obtain ⟨q0, q1, q2, q3, ql⟩ := HY.out w2 hb2
        have qk : w.heap.size < w2.heap.size := by omega
        go_wp2
        go_ret
        exact ⟨rfl, B1.trans (hb2.mono B1.size)⟩
    · have hi : decide ((30 : Int) < (x0.length : Int)) = true := by simp; omega
      go_wp2_with fail
      refine (HFW.out _ B1).mono ?_
      rintro e w2 ⟨rfl, hb2⟩
      obtain ⟨q0, q1, q2, q3, ql⟩ := HY.out w2 hb2
      have qk : w.heap.size < w2.heap.size := by omega
      go_wp2
      go_ret
      exact ⟨rfl, B1.trans (hb2.mono B1.size)⟩
end Go.Proofs.Ythabpkigflldmaa
