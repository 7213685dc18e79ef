/- RelocateCloses returns true. -/
import Derived.Test.YthabpkigflldmaaClR
namespace Go.Proofs.Ythabpkigflldmaa
open Go.RowKit

set_option maxHeartbeats 1000000 in
theorem long_c (x : List Int) (v : Value) (w : World) (B : Nat) (_hB : B ≤ w.heap.size) (h : Ints w B x v) :
    Calls Try.prog 21 #[v] w fun e w' => e = .returned (.bool (decide (30 < x.length))) ∧ Below w.heap.size w w' := by
  obtain ⟨A, c, rfl, hc1, hc2, _⟩ := id h
  go_enter Try.func21, Try.ntmps21
  go_wp2
  go_ret
  exact ⟨ret_bool (by rw [decide_eq_decide]; omega), Below.refl _ _⟩
set_option maxRecDepth 100000 in
set_option maxHeartbeats 8000000 in
theorem closes_law (ls : List Shelf) (bs : List Box) (x0 x1 : List Int) (states : List (List Int)) (vl vb v0 v1 vs : Value) (w : World) (B : Nat) (hB : B ≤ w.heap.size) (hl : Shelves w B ls vl) (hbx : Boxes w B bs vb) (h0 : Ints w B x0 v0) (h1 : Ints w B x1 v1) (hs : States w B states vs) :
    Calls Try.prog 4 #[.agg #[vl, vb], .agg #[v0, v1], vs] w fun e w' => e = .returned (.bool true) ∧ Below w.heap.size w w' := by
  have b0 : Below w.heap.size w ((w.alloc (roomsC vl vb)).alloc (.cells #[v0, v1] 42)) := ((Below.refl _ _).alloc (Nat.le_refl _) _).alloc (by simp) _
  have ZK := Lib.hid (fun (W : World) (hW : Below (w.heap.size + 2) ((w.alloc (roomsC vl vb)).alloc (.cells #[v0, v1] 42)) W) => (⟨(hW.cell (p := ⟨w.heap.size, 0, none⟩) (by simp)).trans (by simp [World.cell?_alloc_lt, roomsC]), (hW.cell (p := ⟨w.heap.size, 1, none⟩) (by simp)).trans (by simp [World.cell?_alloc_lt, roomsC]), (hW.cell (p := ⟨w.heap.size + 1, 0, none⟩) (by simp)).trans (by simp), (hW.cell (p := ⟨w.heap.size + 1, 1, none⟩) (by simp)).trans (by simp), by have := hW.size; simp at this; omega⟩ : W.cell? ⟨w.heap.size, 0, none⟩ = some vl ∧ W.cell? ⟨w.heap.size, 1, none⟩ = some vb ∧ W.cell? ⟨w.heap.size + 1, 0, none⟩ = some v0 ∧ W.cell? ⟨w.heap.size + 1, 1, none⟩ = some v1 ∧ w.heap.size + 1 < W.heap.size))
  have HFW := Lib.hid (fun (W : World) (hW : Below w.heap.size w W) => few_c ls bs vl vb W B (Nat.le_trans hB hW.size) (hl.below shS (hW.mono hB)) (hbx.below boS (hW.mono hB)))
  have HCO := Lib.hid (fun (W : World) (hW : Below w.heap.size w W) => containsStA_c (fun x => decide (30 < x.length)) states vs W B (Nat.le_trans hB hW.size) (hs.below saS (hW.mono hB)) (fun x vx W' hW' hx => long_c x vx W' B (Nat.le_trans hB (Nat.le_trans hW.size hW'.size)) hx))
  obtain ⟨A, c, rfl, hc1, hc2, _⟩ := id hl
  obtain ⟨A', c', rfl, hd1, hd2, _⟩ := id hbx
  obtain ⟨A0, c0, rfl, ha1, ha2, _⟩ := id h0
  obtain ⟨A1, c1, rfl, hb1, hb2, _⟩ := id h1
  obtain ⟨A3, c3, rfl, he1, he2, _⟩ := id hs
  go_enter Try.func4, Try.ntmps4
  go_wp2_with fail
  refine (awake_c _).mono ?_
  rintro e w1 ⟨rfl, hb1⟩
  simp only [World.size_alloc] at hb1
  have B1 := b0.trans (hb1.mono (by omega))
  obtain ⟨z0, z1, z2, z3, zl⟩ := ZK.out w1 hb1
  have zk : w.heap.size < w1.heap.size := by omega
  cases hfew : fewB ls bs
  · rw [hfew] at HFW
    clear hfew
    go_wp2_with fail
    refine (HFW.out _ B1).mono ?_
    rintro e w2 ⟨rfl, hb2⟩
    go_wp2
    go_ret
    exact ⟨rfl, B1.trans (hb2.mono B1.size)⟩
  · obtain ⟨f1, f2, f3⟩ := few_ok hfew
    rw [hfew] at HFW
    have HF3 := Lib.hid f3
    clear hfew f3
    have HY := Lib.hid (fun (w2 : World) (hb2 : Below w1.heap.size w1 w2) => ZK.out w2 (hb1.trans (hb2.mono (by omega))))
    by_cases h30 : x0.length ≤ 30
    · have hi : decide ((30 : Int) < (x0.length : Int)) = false := by simp; omega
      by_cases h31 : x1.length ≤ 30
      · have hj : decide ((30 : Int) < (x1.length : Int)) = false := by simp; omega
        by_cases h32 : states.length ≤ 300
        · have hk : decide ((300 : Int) < (states.length : Int)) = false := by simp; omega
          go_wp2_with fail
          refine (HFW.out _ B1).mono ?_
          rintro e w2 ⟨rfl, hb2⟩
          have b12 := hb1.trans (hb2.mono (by omega))
          have B2 := b0.trans (b12.mono (by omega))
          clear z0 z1 z2 z3 zl zk
          obtain ⟨z0, z1, z2, z3, zl⟩ := ZK.out w2 b12
          have zk : w.heap.size < w2.heap.size := by omega
          have HCX := Lib.hid (HCO.out w2 B2)
          cases hany : states.any (fun x => decide (30 < x.length))
          · rw [hany] at HCX
            clear hany
            go_wp2_with fail
            refine HCX.out.mono ?_
            rintro e w2' ⟨rfl, hb2'⟩
            have b12' := b12.trans (hb2'.mono (by omega))
            have B2' := b0.trans (b12'.mono (by omega))
            clear z0 z1 z2 z3 zl zk
            obtain ⟨z0, z1, z2, z3, zl⟩ := ZK.out w2' b12'
            have zk : w.heap.size < w2'.heap.size := by omega
            go_wp2_with fail
            refine (all_c ls bs _ _ w2' B (Nat.le_trans hB B2'.size) (hl.below shS (B2'.mono hB)) (hbx.below boS (B2'.mono hB)) (by omega) (by omega) (fun b hb => by have := HF3.out b hb; omega)).mono ?_
            rintro e w3 ⟨ul, ub, rfl, h3l, h3b, hb3⟩
            have b13 := b12'.trans (hb3.mono (by omega))
            have B3 := b0.trans (b13.mono (by omega))
            have hs3 := B3.size
            have LB3 : LB w3 ls bs ul ub := ⟨h3l, h3b⟩
            obtain ⟨Al, cl, rfl, -⟩ := id h3l
            obtain ⟨Ab, cb, rfl, -⟩ := id h3b
            clear z0 z1 z2 z3 zl zk h3l h3b
            obtain ⟨z0, z1, z2, z3, zl⟩ := ZK.out w3 b13
            have zk : w.heap.size < w3.heap.size := by omega
            have hEq : (closedE ls bs x0 x1 states == closedE ls bs x0 x1 states) = true := by simp
            have HC0 := Lib.hid (fun (W : World) (hW : Below w3.heap.size w3 W) => cloneI_c x0 (.slice A0 x0.length c0) W B (by have := hW.size; omega) (h0.below inS ((B3.trans (hW.mono hs3)).mono hB)) (by omega))
            have HC1 := Lib.hid (fun (W : World) (hW : Below w3.heap.size w3 W) => cloneI_c x1 (.slice A1 x1.length c1) W B (by have := hW.size; omega) (h1.below inS ((B3.trans (hW.mono hs3)).mono hB)) (by omega))
            have HCS := Lib.hid (fun (W : World) (hW : Below w3.heap.size w3 W) => cloneS_c states (.slice A3 states.length c3) W B (by have := hW.size; omega) (hs.below saS ((B3.trans (hW.mono hs3)).mono hB)) (by omega))
            have HPR := Lib.hid (fun (u0 u1 us : Value) (W : World) (hW : Below w3.heap.size w3 W) (k0 : SlRep 1 (flat intEnc) W (fun b => b < W.heap.size) x0 u0) (k1 : SlRep 1 (flat intEnc) W (fun b => b < W.heap.size) x1 u1) (ks : SlRep 1 stateR W (fun b => b < W.heap.size) states us) => Closed_c ls bs x0 x1 states _ _ u0 u1 us W W.heap.size (Nat.le_refl _) (LB3.below hW).l (LB3.below hW).b k0 k1 ks)
            have HRE := Lib.hid (fun (W : World) (hW : Below w3.heap.size w3 W) => rClosed_c ls bs x0 x1 states _ _ _ _ _ W B (by have := hW.size; omega) (hl.below shS ((B3.trans (hW.mono hs3)).mono hB)) (hbx.below boS ((B3.trans (hW.mono hs3)).mono hB)) (h0.below inS ((B3.trans (hW.mono hs3)).mono hB)) (h1.below inS ((B3.trans (hW.mono hs3)).mono hB)) (hs.below saS ((B3.trans (hW.mono hs3)).mono hB)))
            have KEEP := Lib.hid (fun (W : World) (hW : Below w3.heap.size w3 W) => (⟨(hW.cell (p := ⟨w.heap.size, 0, none⟩) zk).trans z0, (hW.cell (p := ⟨w.heap.size, 1, none⟩) zk).trans z1, (hW.cell (p := ⟨w.heap.size + 1, 0, none⟩) zl).trans z2, (hW.cell (p := ⟨w.heap.size + 1, 1, none⟩) zl).trans z3⟩ : W.cell? ⟨w.heap.size, 0, none⟩ = some (.slice A ls.length c) ∧ W.cell? ⟨w.heap.size, 1, none⟩ = some (.slice A' bs.length c') ∧ W.cell? ⟨w.heap.size + 1, 0, none⟩ = some (.slice A0 x0.length c0) ∧ W.cell? ⟨w.heap.size + 1, 1, none⟩ = some (.slice A1 x1.length c1)))
            have hbX : Below w3.heap.size w3 w3.drew := (Below.refl _ _).drew
            clear LB3 HFW HCO HY HCX ZK
            go_wp2
            go_region_held3 (fun W => W.cell? ⟨w.heap.size, 0, none⟩ = some (.slice A ls.length c) ∧ W.cell? ⟨w.heap.size, 1, none⟩ = some (.slice A' bs.length c') ∧ W.cell? ⟨w.heap.size + 1, 0, none⟩ = some (.slice A0 x0.length c0) ∧ W.cell? ⟨w.heap.size + 1, 1, none⟩ = some (.slice A1 x1.length c1)) (with_reducible exact KEEP.out _ hbX) (first
              | (go_at_call 22; (with_reducible refine (HPR.out _ _ _ _ hbX k0 k1 kS).mono ?_); rintro e wP ⟨rfl, hb'⟩; have hbX := hbX.trans (hb'.mono hbX.size))
              | (go_at_call 24; (with_reducible refine (HRE.out _ hbX).mono ?_); rintro e wR ⟨rfl, hb'⟩; have hbX := hbX.trans (hb'.mono hbX.size))
              | (go_at_call 23; (with_reducible refine (HCS.out _ hbX).mono ?_); rintro e wS ⟨vS, rfl, hownS, hb'⟩; have kS := hownS.toSl saS; have k0 := (k0.below inS hb').mono inS hb'.size; have k1 := (k1.below inS hb').mono inS hb'.size; have hbX := hbX.trans (hb'.mono hbX.size))
              | (go_at_call 14; (with_reducible refine (HC0.out _ hbX).mono ?_); rintro e wC ⟨vC, rfl, hownC, hb'⟩; have k0 := hownC.toSl inS; obtain ⟨AC, cC, rfl, -⟩ := id k0; have hbX := hbX.trans (hb'.mono hbX.size); clear HC0)
              | (go_at_call 14; (with_reducible refine (HC1.out _ hbX).mono ?_); rintro e wD ⟨vD, rfl, hownD, hb'⟩; have k1 := hownD.toSl inS; obtain ⟨AD, cD, rfl, -⟩ := id k1; have k0 := (k0.below inS hb').mono inS hb'.size; have hbX := hbX.trans (hb'.mono hbX.size)))
            all_goals go_wp2
            all_goals go_ret
            all_goals exact ⟨rfl, B3.trans (hbX.mono hs3)⟩
          · rw [hany] at HCX
            clear hany
            go_wp2_with fail
            refine HCX.out.mono ?_
            rintro e w3 ⟨rfl, hb3⟩
            go_wp2
            go_ret
            exact ⟨rfl, B2.trans (hb3.mono B2.size)⟩
        · have hk : decide ((300 : Int) < (states.length : Int)) = true := by simp; omega
          go_wp2_with fail
          refine (HFW.out _ B1).mono ?_
          rintro e w2 ⟨rfl, hb2⟩
          obtain ⟨q0, q1, q2, q3, ql⟩ := HY.out w2 hb2
          have qk : w.heap.size < w2.heap.size := by omega
          go_wp2
          go_ret
          exact ⟨rfl, B1.trans (hb2.mono B1.size)⟩
      · have hj : decide ((30 : Int) < (x1.length : Int)) = true := by simp; omega
        go_wp2_with fail
        refine (HFW.out _ B1).mono ?_
        rintro e w2 ⟨rfl, hb2⟩
        obtain ⟨q0, q1, q2, q3, ql⟩ := HY.out w2 hb2
        have qk : w.heap.size < w2.heap.size := by omega
        go_wp2
        go_ret
        exact ⟨rfl, B1.trans (hb2.mono B1.size)⟩
    · have hi : decide ((30 : Int) < (x0.length : Int)) = true := by simp; omega
      go_wp2_with fail
      refine (HFW.out _ B1).mono ?_
      rintro e w2 ⟨rfl, hb2⟩
      obtain ⟨q0, q1, q2, q3, ql⟩ := HY.out w2 hb2
      have qk : w.heap.size < w2.heap.size := by omega
      go_wp2
      go_ret
      exact ⟨rfl, B1.trans (hb2.mono B1.size)⟩
end Go.Proofs.Ythabpkigflldmaa
