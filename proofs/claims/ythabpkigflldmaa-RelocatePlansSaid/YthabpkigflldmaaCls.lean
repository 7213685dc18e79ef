/- Closed of the program. -/
import Derived.Test.YthabpkigflldmaaPln
namespace Go.Proofs.Ythabpkigflldmaa
open Go.RowKit

def hasB (states : List (List Int)) (x : List Int) : Bool := states.any fun y => eqL eqI y x
def ascB : Option (List Int) → List Int → Bool
  | none, _ => true
  | some q, x => decide (cmpL q x < 0)
def stepsB (ls : List Shelf) (bs : List Box) (states : List (List Int)) (x : List Int) : Bool := (stepsF ls bs x).all fun c => hasB states (movedF bs x c)
def clG (ls : List Shelf) (bs : List Box) (states : List (List Int)) : Option (List Int) → List (List Int) → Bool
  | _, [] => true
  | p, x :: r => decide (checkF ls bs x = 0) && ascB p x && stepsB ls bs states x && clG ls bs states (some x) r
def closedE (ls : List Shelf) (bs : List Box) (x0 x1 : List Int) (states : List (List Int)) : Int :=
  if possE ls bs x0 ≠ 0 then possE ls bs x0 else if possE ls bs x1 ≠ 0 then possE ls bs x1 else if (hasB states x0 && !hasB states x1 && clG ls bs states none states) = true then 0 else 14
def prevO (states : List (List Int)) (k : Nat) : Option (List Int) := if k = 0 then none else states[k - 1]?
theorem has1_c (x y : List Int) (vx vy : Value) (g : Nat) (w : World) (B : Nat) (hB : B ≤ w.heap.size) (hx : Ints w B x vx) (hy : Ints w B y vy) (h0 : w.cell? ⟨g, 0, none⟩ = some vx) :
    Calls Try.prog 54 #[vy, .pointer (some ⟨g, 0, none⟩)] w fun e w' => e = .returned (.bool (eqL eqI y x)) ∧ Below w.heap.size w w' := by
  have HE := Lib.hid (Calls.below_of (equalI_c y x vy vx w B hB hy hx))
  go_enter Try.func54, Try.ntmps54
  go_wp2_with fail
  refine HE.out.mono ?_
  rintro e w1 ⟨rfl, hb1⟩
  go_wp2
  go_ret
  exact ⟨rfl, hb1⟩
set_option maxHeartbeats 1000000 in
theorem has_c (x : List Int) (states : List (List Int)) (vx vs : Value) (g : Nat) (w : World) (B : Nat) (hB : B ≤ w.heap.size) (hx : Ints w B x vx) (hs : States w B states vs) (h0 : w.cell? ⟨g, 0, none⟩ = some vs) (hg : g < w.heap.size) :
    Calls Try.prog 53 #[vx, .pointer (some ⟨g, 0, none⟩)] w fun e w' => e = .returned (.bool (hasB states x)) ∧ Below w.heap.size w w' := by
  obtain ⟨A, c, rfl, hc1, hc2, _⟩ := id hx
  have b0 : Below w.heap.size w (w.alloc (.cells #[.slice A x.length c] 26)) := (Below.refl _ _).alloc (Nat.le_refl _) _
  have HC := Lib.hid (containsStD_c (.pointer (some ⟨w.heap.size, 0, none⟩)) (fun y => eqL eqI y x) states vs _ B (Nat.le_trans hB b0.size) (hs.below saS (b0.mono hB)) (fun y vy W hW hy => has1_c x y (.slice A x.length c) vy w.heap.size W B (Nat.le_trans hB (Nat.le_trans b0.size hW.size)) ((hx.below inS (b0.mono hB)).below inS (hW.mono (Nat.le_trans hB b0.size))) hy ((hW.cell (p := ⟨w.heap.size, 0, none⟩) (by simp)).trans (by simp))))
  obtain ⟨A', c', rfl, hd1, hd2, _⟩ := id hs
  go_enter Try.func53, Try.ntmps53
  go_wp2_with fail
  refine HC.out.mono ?_
  rintro e w1 ⟨rfl, hb1⟩
  go_wp2
  go_ret
  exact ⟨rfl, b0.trans (hb1.mono (by simp))⟩
set_option maxRecDepth 100000 in
set_option maxHeartbeats 8000000 in
theorem Closed_c (ls : List Shelf) (bs : List Box) (x0 x1 : List Int) (states : List (List Int)) (vl vb v0 v1 vs : Value) (w : World) (B : Nat) (hB : B ≤ w.heap.size) (hl : Shelves w B ls vl) (hbx : Boxes w B bs vb) (h0 : Ints w B x0 v0) (h1 : Ints w B x1 v1) (hs : States w B states vs) :
    Calls Try.prog 22 #[.agg #[v0, v1], vl, vb, vs] w fun e w' => e = .returned (.int .i64 (closedE ls bs x0 x1 states)) ∧ Below w.heap.size w w' := by
  have HP := Lib.hid (fun (x : List Int) (vx : Value) (W : World) (hW : Below w.heap.size w W) (hx : Ints w B x vx) => possible_c ls bs x vl vb vx W B (Nat.le_trans hB hW.size) (hl.below shS (hW.mono hB)) (hbx.below boS (hW.mono hB)) (hx.below inS (hW.mono hB)))
  have HX0 := Lib.hid h0
  have HX1 := Lib.hid h1
  obtain ⟨A0, c0, rfl, ha1, ha2, _⟩ := id h0
  obtain ⟨A1, c1, rfl, hb1, hb2, _⟩ := id h1
  obtain ⟨A, c, rfl, hc1, hc2, _⟩ := id hl
  obtain ⟨A', c', rfl, hd1, hd2, _⟩ := id hbx
  obtain ⟨A3, c3, rfl, he1, he2, _⟩ := id hs
  have i0 : ∀ w, (Instr.index 46 (.agg #[.slice A0 x0.length c0, .slice A1 x1.length c1]) (.int .i64 0)).run Try.prog w = .ok (.slice A0 x0.length c0) w := fun _ => by kernel_rfl
  have i1 : ∀ w, (Instr.index 46 (.agg #[.slice A0 x0.length c0, .slice A1 x1.length c1]) (.int .i64 1)).run Try.prog w = .ok (.slice A1 x1.length c1) w := fun _ => by kernel_rfl
  have b0 : Below w.heap.size w ((w.alloc (.cells #[.slice A0 x0.length c0, .slice A1 x1.length c1] 46)).alloc (.cells #[.slice A3 states.length c3] 35)) := ((Below.refl _ _).alloc (Nat.le_refl _) _).alloc (by simp) _
  have ZK := Lib.hid (fun (W : World) (hW : Below (w.heap.size + 2) ((w.alloc (.cells #[.slice A0 x0.length c0, .slice A1 x1.length c1] 46)).alloc (.cells #[.slice A3 states.length c3] 35)) W) => (⟨(hW.cell (p := ⟨w.heap.size, 0, none⟩) (by simp)).trans (by simp [World.cell?_alloc_lt]), (hW.cell (p := ⟨w.heap.size, 1, none⟩) (by simp)).trans (by simp [World.cell?_alloc_lt]), (hW.cell (p := ⟨w.heap.size + 1, 0, none⟩) (by simp)).trans (by simp), by have := hW.size; simp at this; omega⟩ : W.cell? ⟨w.heap.size, 0, none⟩ = some (.slice A0 x0.length c0) ∧ W.cell? ⟨w.heap.size, 1, none⟩ = some (.slice A1 x1.length c1) ∧ W.cell? ⟨w.heap.size + 1, 0, none⟩ = some (.slice A3 states.length c3) ∧ w.heap.size + 1 < W.heap.size))
  by_cases hp0 : possE ls bs x0 = 0
  · by_cases hp1 : possE ls bs x1 = 0
    · have hst := (poss_zero hp0).1
      have HCL := Lib.hid (show closedE ls bs x0 x1 states = if (hasB states x0 && !hasB states x1 && clG ls bs states none states) = true then 0 else 14 by simp [closedE, hp0, hp1])
      have HP0 := Lib.hid hp0
      have HP1 := Lib.hid hp1
      have H0 := Lib.hid hst
      have HHA := Lib.hid (fun (x : List Int) (vx : Value) (W : World) (hW : Below (w.heap.size + 2) ((w.alloc (.cells #[.slice A0 x0.length c0, .slice A1 x1.length c1] 46)).alloc (.cells #[.slice A3 states.length c3] 35)) W) (hx : SlRep 1 (flat intEnc) W (fun b => b < W.heap.size) x vx) => (by
        have hW' := b0.trans (hW.mono (by omega))
        exact has_c x states vx (.slice A3 states.length c3) (w.heap.size + 1) W W.heap.size (Nat.le_refl _) hx ((hs.below saS (hW'.mono hB)).mono saS (Nat.le_trans hB hW'.size)) (ZK.out W hW).2.2.1 (ZK.out W hW).2.2.2 : Calls Try.prog 53 #[vx, .pointer (some ⟨w.heap.size + 1, 0, none⟩)] W fun e w' => e = .returned (.bool (hasB states x)) ∧ Below W.heap.size W w'))
      have HCK := Lib.hid (fun (x : List Int) (vx : Value) (W : World) (hW : Below w.heap.size w W) (hx : Ints W B x vx) => check_c ls bs x (.slice A ls.length c) (.slice A' bs.length c') vx W B (Nat.le_trans hB hW.size) (hl.below shS (hW.mono hB)) (hbx.below boS (hW.mono hB)) hx hst)
      have HSP := Lib.hid (fun (x : List Int) (vx : Value) (W : World) (hW : Below w.heap.size w W) (hx : Ints W B x vx) (hr : Right ls bs x) => steps_c ls bs x (.slice A ls.length c) (.slice A' bs.length c') vx W B (Nat.le_trans hB hW.size) (hl.below shS (hW.mono hB)) (hbx.below boS (hW.mono hB)) hx hst hr)
      have HIX := Lib.hid (fun (u : Int) (W : World) (hW : Below w.heap.size w W) => hindex_c u bs (.slice A ls.length c) (.slice A' bs.length c') W B (Nat.le_trans hB hW.size) (hbx.below boS (hW.mono hB)) ⟨_, _, _, rfl⟩)
      clear hp0 hp1 hst
      go_enter Try.func22, Try.ntmps22
      go_wp2
      go_loopw [19] (fun i wr => ∃ k : Nat, k ≤ 2 ∧ i = .int .i64 k ∧ Below (w.heap.size + 2) ((w.alloc (.cells #[.slice A0 x0.length c0, .slice A1 x1.length c1] 46)).alloc (.cells #[.slice A3 states.length c3] 35)) wr) (fun i _ => 2 - (intOf i).toNat)
      case atStart => exact ⟨0, by omega, rfl, Below.refl _ _⟩
      case round =>
        obtain ⟨k, hk, rfl, hb⟩ := hrel
        have B1 := b0.trans (hb.mono (by omega))
        have hsz := hb.size
        simp only [World.size_alloc] at hsz
        rcases (show k = 0 ∨ k = 1 ∨ k = 2 by omega) with rfl | rfl | rfl
        · have HPX := Lib.hid (HP.out x0 _ wr B1 HX0.out)
          rw [HP0.out] at HPX
          go_wp2_with fail
          refine HPX.out.mono ?_
          rintro e w3 ⟨rfl, hb3⟩
          go_wp2
          go_roundw
          case rel => exact ⟨1, by omega, rfl, hb.trans (hb3.mono (by omega))⟩
          case measure => simp [intOf]
        · have HPX := Lib.hid (HP.out x1 _ wr B1 HX1.out)
          rw [HP1.out] at HPX
          go_wp2_with fail
          refine HPX.out.mono ?_
          rintro e w3 ⟨rfl, hb3⟩
          go_wp2
          go_roundw
          case rel => exact ⟨2, by omega, rfl, hb.trans (hb3.mono (by omega))⟩
          case measure => simp [intOf]
        · have bq : Below wr.heap.size wr (wr.alloc (houseC (.slice A ls.length c) (.slice A' bs.length c'))) := (Below.refl _ _).alloc (Nat.le_refl _) _
          have hbh := hb.trans (bq.mono (by omega))
          obtain ⟨z0, z1, z2, z3⟩ := ZK.out _ hb
          obtain ⟨w8, rfl⟩ : ∃ w8 : World, w8 = wr := ⟨_, rfl⟩
          have z4 : (w8.alloc (houseC (.slice A ls.length c) (.slice A' bs.length c'))).cell? ⟨w8.heap.size, 0, none⟩ = some (.slice A ls.length c) := by simp
          have z5 : (w8.alloc (houseC (.slice A ls.length c) (.slice A' bs.length c'))).cell? ⟨w8.heap.size, 1, none⟩ = some (.slice A' bs.length c') := by simp
          have hsh : w8.heap.size < (w8.alloc (houseC (.slice A ls.length c) (.slice A' bs.length c'))).heap.size := by simp
          have Bw := B1.trans (bq.mono (by omega))
          obtain ⟨zz0, zz1, zst, -⟩ := ZK.out _ hbh
          clear HP HX0 HX1 i0 i1 HP0 HP1 ZK z0 z1 z2 z3 bq
          go_upto_region 10 with fail
          generalize w8.alloc (houseC (.slice A ls.length c) (.slice A' bs.length c')) = wh at *
          have hswh := hbh.size
          simp only [World.size_alloc] at hswh
          go_wp2_with fail
          refine (HHA.out x0 _ _ hbh ((h0.below inS (Bw.mono hB)).mono inS (Nat.le_trans hB Bw.size))).mono ?_
          rintro e w4 ⟨rfl, hb4⟩
          have hs4 := hb4.size
          have zy := (hb4.cell (p := ⟨w.heap.size, 1, none⟩) (by show w.heap.size < _; omega)).trans zz1
          have hw4 : w.heap.size < w4.heap.size := by omega
          cases hh0 : hasB states x0
          · have HE := Lib.hid (show closedE ls bs x0 x1 states = 14 by rw [HCL.out, hh0]; rfl)
            go_wp2
            go_ret
            exact ⟨ret_int HE.out.symm, Bw.trans (hb4.mono Bw.size)⟩
          · have B4 := Bw.trans (hb4.mono Bw.size)
            have hbh4 := hbh.trans (hb4.mono (by omega))
            go_wp2_with fail
            refine (HHA.out x1 _ _ hbh4 ((h1.below inS (B4.mono hB)).mono inS (Nat.le_trans hB B4.size))).mono ?_
            rintro e w5 ⟨rfl, hb5⟩
            have hs5 := hb5.size
            have hb54 := hb4.trans (hb5.mono hb4.size)
            have zs := (hb54.cell (p := ⟨w.heap.size + 1, 0, none⟩) (by show w.heap.size + 1 < _; omega)).trans zst
            have hw5 : w.heap.size + 1 < w5.heap.size := by omega
            cases hh1 : hasB states x1
            · rw [hh0, hh1] at HCL
              simp only [Bool.true_and, Bool.not_false] at HCL
              have HN0 := Lib.hid (show clG ls bs states none states = clG ls bs states (prevO states 0) (states.drop 0) by simp [prevO])
              clear hh0 hh1 zy zz0 zz1 h0 h1
              go_wp2
              go_loopw [47] (fun i wr => ∃ k : Nat, k ≤ states.length ∧ i = .int .i64 k ∧ Hid (clG ls bs states none states = clG ls bs states (prevO states k) (states.drop k)) ∧ Below wh.heap.size wh wr) (fun i _ => states.length - (intOf i).toNat)
              case atStart => exact ⟨0, Nat.zero_le _, rfl, HN0, hb54⟩
              case round =>
                obtain ⟨k, hk, rfl, HN, hbr⟩ := hrel
                clear HN0 zs hb54 hb4 hb5 B4 hbh4
                have hsr := hbr.size
                have Br := Bw.trans (hbr.mono (by omega))
                by_cases hlt : k < states.length
                · obtain ⟨x, hx⟩ := get_at states hlt
                  have HD := Lib.hid (drop_at hx)
                  have HPV := Lib.hid (show prevO states (k + 1) = some x by simp [prevO, hx])
                  obtain ⟨b3, off3, vx, hA3, hbB3, g0, hvxr⟩ := States.at_ (hs.below saS (Br.mono hB)) hx
                  have hvx : Ints wh B x vx := by
                    obtain ⟨b3', off3', vx', hA3', _, g0', hv'⟩ := States.at_ (hs.below saS (Bw.mono hB)) hx
                    rw [hA3] at hA3'
                    cases hA3'
                    have := (hbr.cell (p := ⟨b3, off3 + k, none⟩) (by show b3 < _; omega)).trans g0'
                    rw [g0] at this
                    injection this with this
                    rw [this]; exact hv'
                  subst hA3
                  obtain ⟨Ax, cx, rfl, -⟩ := id hvx
                  have hb3l : b3 < wr.heap.size := by omega
                  have r0 := (hbr.cell (p := ⟨w8.heap.size, 0, none⟩) (by show w8.heap.size < _; omega)).trans z4
                  have r1 := (hbr.cell (p := ⟨w8.heap.size, 1, none⟩) (by show w8.heap.size < _; omega)).trans z5
                  have r2 := (hbr.cell (p := ⟨w.heap.size + 1, 0, none⟩) (by show w.heap.size + 1 < _; omega)).trans zst
                  have hw8r : w8.heap.size < wr.heap.size := by omega
                  have hw1r : w.heap.size + 1 < wr.heap.size := by omega
                  have HCX := Lib.hid (HCK.out x _ wr Br hvxr)
                  by_cases hck : checkE ls bs x = 0
                  · have hcf : checkF ls bs x = 0 := by rw [← check_eq H0.out]; exact hck
                    have HCZ := Lib.hid (show decide (checkF ls bs x = 0) = true by simp [hcf])
                    have HRR := Lib.hid (poss_zero (show possE ls bs x = 0 by rw [possE, if_pos H0.out]; exact hcf)).2.1
                    rw [hck] at HCX
                    clear hcf hck
                    rcases Nat.eq_zero_or_pos k with hk0 | hk0
                    · subst hk0
                      simp only [Nat.add_zero] at g0
                      have HAS := Lib.hid (show ascB (prevO states 0) x = true from rfl)
                      clear hx
                      go_wp2_with fail
                      refine HCX.out.mono ?_
                      rintro e w6 ⟨rfl, hb6⟩
                      have HBC := hbr.trans (hb6.mono hsr)
                      have hs6 := hb6.size
                      have y0 := (hb6.cell (p := ⟨w8.heap.size, 0, none⟩) hw8r).trans r0
                      have y1 := (hb6.cell (p := ⟨w8.heap.size, 1, none⟩) hw8r).trans r1
                      have hw86 : w8.heap.size < w6.heap.size := by omega
                      clear r0 r1 r2 HCX g0
                      have HSX := Lib.hid (HSP.out x (.slice Ax x.length cx) _ (Bw.trans (HBC.mono (by omega))) (hvx.below inS (HBC.mono (by omega))) HRR.out)
                      go_wp2_with fail
                      refine HSX.out.mono ?_
                      rintro e w7 ⟨v7, rfl, hown7, hb7⟩
                      have hbd := HBC.trans (hb7.mono HBC.size)
                      have hst7 := hown7.toFlat caS
                      have hlt7 := hown7.own_lt
                      have hs7 := hb7.size
                      have hsC := HBC.size
                      obtain ⟨wq, rfl⟩ : ∃ wq : World, wq = wr := ⟨_, rfl⟩
                      have HMB := Lib.hid (fun (cc : Carry) (hc : cc ∈ stepsF ls bs x) => (by
                        obtain ⟨i, b, sh, h1, h2, _, _, rfl⟩ := mem_steps.1 hc
                        have h4 := bxIx_at (asc_of H0.out).2 h1
                        exact ⟨i, h4, by rw [HRR.out.1]; exact lt_of_at h1, moved_at h4⟩ : ∃ i : Nat, bxIx bs cc.box = (i : Int) ∧ i < x.length ∧ movedF bs x cc = x.set i cc.to_))
                      have HSB := Lib.hid (show stepsB ls bs states x = (stepsF ls bs x).all (fun cc => hasB states (movedF bs x cc)) from rfl)
                      have hst4 : (stepsF ls bs x).length ≤ 4096 := by
                        have h1 := stepsG_len ls bs x bs 0
                        have h2 : ls.length * bs.length ≤ 32 * 128 := Nat.mul_le_mul (shelves_len (start_ok H0.out).1) (boxes_ok (start_ok H0.out).2.1).1
                        unfold stepsF; omega
                      have hxl : x.length ≤ 128 := by rw [HRR.out.1]; exact (boxes_ok (start_ok H0.out).2.1).1
                      generalize stepsF ls bs x = st at *
                      obtain ⟨A7, c7, rfl, hA7, hA7', -⟩ := id hst7
                      have HI0 := Lib.hid (show stepsB ls bs states x = (st.drop 0).all (fun cc => hasB states (movedF bs x cc)) by rw [HSB.out]; rfl)
                      clear hown7 HSX
                      go_wp2
                      go_loopw [74] (fun i wi => ∃ j : Nat, j ≤ st.length ∧ i = .int .i64 j ∧ Hid (stepsB ls bs states x = (st.drop j).all (fun cc => hasB states (movedF bs x cc))) ∧ Below w7.heap.size w7 wi) (fun i _ => st.length - (intOf i).toNat)
                      case atStart => exact ⟨0, Nat.zero_le _, rfl, HI0, Below.refl _ _⟩
                      case round =>
                        obtain ⟨j, hj, rfl, HI, hbi⟩ := hrel
                        clear HI0
                        have hsi := hbi.size
                        have hbw := hbd.trans (hbi.mono (by omega))
                        have hbz := hbh.trans (hbw.mono (by omega))
                        have Bi := Bw.trans (hbw.mono (by omega))
                        have hwi : w8.heap.size < wr.heap.size := by omega
                        have q0 := (hbw.cell (p := ⟨w8.heap.size, 0, none⟩) (by show w8.heap.size < _; omega)).trans z4
                        have q1 := (hbw.cell (p := ⟨w8.heap.size, 1, none⟩) (by show w8.heap.size < _; omega)).trans z5
                        by_cases hlt2 : j < st.length
                        · obtain ⟨cc, hcc⟩ := get_at st hlt2
                          obtain ⟨ix, hix, hixl, hmv⟩ := HMB.out cc (List.mem_of_getElem? hcc)
                          have HD2 := Lib.hid (drop_at hcc)
                          obtain ⟨b7, off7, hA7e, hF7, t0, t1, t2⟩ := Carries.at_ (hst7.frame caS (fun b hb => hbi.block b (hlt7 b hb).2)) hcc
                          have hb7l : b7 < wr.heap.size := by have := (hlt7 b7 hF7).2; omega
                          subst hA7e
                          have bq2 : Below wr.heap.size wr (wr.alloc (carryC cc)) := (Below.refl _ _).alloc (Nat.le_refl _) _
                          have HIXc := Lib.hid (fun (W : World) (hW : Below wr.heap.size wr W) => HIX.out cc.box W (Bi.trans (hW.mono (by omega))))
                          rw [hix] at HIXc
                          have hxi := hvx.below inS ((hbw.mono (by omega) : Below B _ wr))
                          have HCA := Lib.hid (fun (W : World) (hW : Below wr.heap.size wr W) => carried_c x (.slice Ax x.length cx) ix cc.to_ W B (by have := hW.size; omega) (hxi.below inS (hW.mono (by omega))) hixl (by omega))
                          rw [← hmv] at HCA
                          have KEEP := Lib.hid (fun (w' : World) (hW : Below (wr.heap.size + 1) (wr.alloc (carryC cc)) w') => (⟨((bq2.trans (hW.mono (by omega))).cell (p := ⟨w8.heap.size, 0, none⟩) hwi).trans q0, ((bq2.trans (hW.mono (by omega))).cell (p := ⟨w8.heap.size, 1, none⟩) hwi).trans q1, (hW.cell (p := ⟨wr.heap.size, 0, none⟩) (by simp)).trans (by simp), (hW.cell (p := ⟨wr.heap.size, 2, none⟩) (by simp)).trans (by simp)⟩ : w'.cell? ⟨w8.heap.size, 0, none⟩ = some (.slice A ls.length c) ∧ w'.cell? ⟨w8.heap.size, 1, none⟩ = some (.slice A' bs.length c') ∧ w'.cell? ⟨wr.heap.size, 0, none⟩ = some (.int .i64 cc.box) ∧ w'.cell? ⟨wr.heap.size, 2, none⟩ = some (.int .i64 cc.to_)))
                          have hbX : Below (wr.heap.size + 1) (wr.alloc (carryC cc)) (wr.alloc (carryC cc)).drew := (Below.refl _ _).drew
                          have kC : SlRep 1 (flat intEnc) (wr.alloc (carryC cc)).drew (fun b => b < (wr.alloc (carryC cc)).drew.heap.size) ([] : List Int) (.slice none 0 0) := SlRep.nil_
                          have hbz2 := hbz.trans (bq2.mono (by omega))
                          clear hcc hix hmv hF7
                          go_wp2
                          go_region_held3 (fun w' => w'.cell? ⟨w8.heap.size, 0, none⟩ = some (.slice A ls.length c) ∧ w'.cell? ⟨w8.heap.size, 1, none⟩ = some (.slice A' bs.length c') ∧ w'.cell? ⟨wr.heap.size, 0, none⟩ = some (.int .i64 cc.box) ∧ w'.cell? ⟨wr.heap.size, 2, none⟩ = some (.int .i64 cc.to_)) (with_reducible exact KEEP.out _ hbX) (first
                            | (go_at_call 58; (with_reducible refine (HIXc.out _ (bq2.trans (hbX.mono (by omega)))).mono ?_); rintro e wI ⟨rfl, hb'⟩; have hbX := hbX.trans (hb'.mono (by have := hbX.size; simp only [World.size_alloc] at this; omega)))
                            | (go_at_call 57; (with_reducible refine (HCA.out _ (bq2.trans (hbX.mono (by omega)))).mono ?_); rintro e wC ⟨vC, rfl, hownC, hb'⟩; have kC := hownC.toSl inS; have hbX := hbX.trans (hb'.mono (by have := hbX.size; simp only [World.size_alloc] at this; omega)))
                            | (go_at_call 53; (with_reducible refine (HHA.out _ _ _ (hbz2.trans (hbX.mono (by omega))) kC).mono ?_); rintro e wH ⟨rfl, hb'⟩; have hbX := hbX.trans (hb'.mono (by have := hbX.size; simp only [World.size_alloc] at this; omega))))
                          have b9 := bq2.trans (hbX.mono (by omega))
                          have hb9 := hbi.trans (b9.mono (by omega))
                          clear KEEP HIXc HCA hb' kC
                          cases hhh : hasB states (movedF bs x cc)
                          · have HE := Lib.hid (show closedE ls bs x0 x1 states = 14 by
                              have h1 : stepsB ls bs states x = false := by rw [HI.out, HD2.out]; simp [hhh]
                              rw [HCL.out, HN.out, HD.out, if_neg]; simp [clG, h1])
                            go_wp2
                            go_ret
                            exact ⟨ret_int HE.out.symm, Bi.trans (b9.mono (by omega))⟩
                          · have HE := Lib.hid (show stepsB ls bs states x = (st.drop (j + 1)).all (fun cc => hasB states (movedF bs x cc)) by rw [HI.out, HD2.out]; simp [hhh])
                            go_wp2
                            go_roundw
                            case rel => exact ⟨j + 1, by omega, by go_num, HE, hb9⟩
                            case measure => simp [intOf]; omega
                        · have HE := Lib.hid (show clG ls bs states none states = clG ls bs states (prevO states (0 + 1)) (states.drop (0 + 1)) by
                            have h1 : stepsB ls bs states x = true := by rw [HI.out, List.drop_of_length_le (by omega)]; rfl
                            rw [HN.out, HD.out, clG, h1, HCZ.out, HAS.out, HPV.out]; rfl)
                          go_wp2
                          go_roundw
                          case rel => exact ⟨0 + 1, by omega, by go_num, HE, hbw⟩
                          case measure => simp [intOf]; omega
                    · obtain ⟨k', rfl⟩ : ∃ k', k = k' + 1 := ⟨k - 1, by omega⟩
                      obtain ⟨q, hq⟩ := get_at states (show k' < states.length by omega)
                      have HPQ := Lib.hid (show prevO states (k' + 1) = some q by simp [prevO, hq])
                      obtain ⟨b4, off4, vq, hA4, hbB4, g4, hvq⟩ := States.at_ (hs.below saS (Br.mono hB)) hq
                      cases hA4
                      have HVQ := Lib.hid hvq
                      have HVX := Lib.hid hvxr
                      have hki0 : (0 : Int) < (k' : Int) + 1 := by omega
                      have hki1 : (k' : Int) < (states.length : Int) := by omega
                      clear hx hq
                      go_wp2_with fail
                      refine HCX.out.mono ?_
                      rintro e w6 ⟨rfl, hb6⟩
                      have HBC := hbr.trans (hb6.mono hsr)
                      have hs6 := hb6.size
                      have y0 := (hb6.cell (p := ⟨w8.heap.size, 0, none⟩) hw8r).trans r0
                      have y1 := (hb6.cell (p := ⟨w8.heap.size, 1, none⟩) hw8r).trans r1
                      have y2 := (hb6.cell (p := ⟨w.heap.size + 1, 0, none⟩) hw1r).trans r2
                      have y4 := (hb6.cell (p := ⟨b3, off3 + k', none⟩) hb3l).trans g4
                      have hw86 : w8.heap.size < w6.heap.size := by omega
                      have hw16 : w.heap.size + 1 < w6.heap.size := by omega
                      have hb36 : b3 < w6.heap.size := by omega
                      have HCQ := Lib.hid (compare_c q x _ _ w6 (fun b => b < B) (fun b hb => by have : b < B := hb; omega) (HVQ.out.below inS (hb6.mono (by omega))) (HVX.out.below inS (hb6.mono (by omega))))
                      clear r0 r1 r2 HCX g0 g4 hvq hvxr
                      go_wp2_with fail
                      refine HCQ.out.mono ?_
                      rintro e w6' ⟨rfl, rfl⟩
                      by_cases hcm : cmpL q x < 0
                      · have HAS := Lib.hid (show ascB (prevO states (k' + 1)) x = true by rw [HPQ.out]; simp [ascB, hcm])
                        have HSX := Lib.hid (HSP.out x (.slice Ax x.length cx) _ (Bw.trans (HBC.mono (by omega))) (hvx.below inS (HBC.mono (by omega))) HRR.out)
                        go_wp2_with fail
                        refine HSX.out.mono ?_
                        rintro e w7 ⟨v7, rfl, hown7, hb7⟩
                        have hbd := HBC.trans (hb7.mono HBC.size)
                        have hst7 := hown7.toFlat caS
                        have hlt7 := hown7.own_lt
                        have hs7 := hb7.size
                        have hsC := HBC.size
                        obtain ⟨wq, rfl⟩ : ∃ wq : World, wq = wr := ⟨_, rfl⟩
                        have HMB := Lib.hid (fun (cc : Carry) (hc : cc ∈ stepsF ls bs x) => (by
                          obtain ⟨i, b, sh, h1, h2, _, _, rfl⟩ := mem_steps.1 hc
                          have h4 := bxIx_at (asc_of H0.out).2 h1
                          exact ⟨i, h4, by rw [HRR.out.1]; exact lt_of_at h1, moved_at h4⟩ : ∃ i : Nat, bxIx bs cc.box = (i : Int) ∧ i < x.length ∧ movedF bs x cc = x.set i cc.to_))
                        have HSB := Lib.hid (show stepsB ls bs states x = (stepsF ls bs x).all (fun cc => hasB states (movedF bs x cc)) from rfl)
                        have hst4 : (stepsF ls bs x).length ≤ 4096 := by
                          have h1 := stepsG_len ls bs x bs 0
                          have h2 : ls.length * bs.length ≤ 32 * 128 := Nat.mul_le_mul (shelves_len (start_ok H0.out).1) (boxes_ok (start_ok H0.out).2.1).1
                          unfold stepsF; omega
                        have hxl : x.length ≤ 128 := by rw [HRR.out.1]; exact (boxes_ok (start_ok H0.out).2.1).1
                        generalize stepsF ls bs x = st at *
                        obtain ⟨A7, c7, rfl, hA7, hA7', -⟩ := id hst7
                        have HI0 := Lib.hid (show stepsB ls bs states x = (st.drop 0).all (fun cc => hasB states (movedF bs x cc)) by rw [HSB.out]; rfl)
                        clear hown7 HSX
                        go_wp2
                        go_loopw [74] (fun i wi => ∃ j : Nat, j ≤ st.length ∧ i = .int .i64 j ∧ Hid (stepsB ls bs states x = (st.drop j).all (fun cc => hasB states (movedF bs x cc))) ∧ Below w7.heap.size w7 wi) (fun i _ => st.length - (intOf i).toNat)
                        case atStart => exact ⟨0, Nat.zero_le _, rfl, HI0, Below.refl _ _⟩
                        case round =>
                          obtain ⟨j, hj, rfl, HI, hbi⟩ := hrel
                          clear HI0
                          have hsi := hbi.size
                          have hbw := hbd.trans (hbi.mono (by omega))
                          have hbz := hbh.trans (hbw.mono (by omega))
                          have Bi := Bw.trans (hbw.mono (by omega))
                          have hwi : w8.heap.size < wr.heap.size := by omega
                          have q0 := (hbw.cell (p := ⟨w8.heap.size, 0, none⟩) (by show w8.heap.size < _; omega)).trans z4
                          have q1 := (hbw.cell (p := ⟨w8.heap.size, 1, none⟩) (by show w8.heap.size < _; omega)).trans z5
                          by_cases hlt2 : j < st.length
                          · obtain ⟨cc, hcc⟩ := get_at st hlt2
                            obtain ⟨ix, hix, hixl, hmv⟩ := HMB.out cc (List.mem_of_getElem? hcc)
                            have HD2 := Lib.hid (drop_at hcc)
                            obtain ⟨b7, off7, hA7e, hF7, t0, t1, t2⟩ := Carries.at_ (hst7.frame caS (fun b hb => hbi.block b (hlt7 b hb).2)) hcc
                            have hb7l : b7 < wr.heap.size := by have := (hlt7 b7 hF7).2; omega
                            subst hA7e
                            have bq2 : Below wr.heap.size wr (wr.alloc (carryC cc)) := (Below.refl _ _).alloc (Nat.le_refl _) _
                            have HIXc := Lib.hid (fun (W : World) (hW : Below wr.heap.size wr W) => HIX.out cc.box W (Bi.trans (hW.mono (by omega))))
                            rw [hix] at HIXc
                            have hxi := hvx.below inS ((hbw.mono (by omega) : Below B _ wr))
                            have HCA := Lib.hid (fun (W : World) (hW : Below wr.heap.size wr W) => carried_c x (.slice Ax x.length cx) ix cc.to_ W B (by have := hW.size; omega) (hxi.below inS (hW.mono (by omega))) hixl (by omega))
                            rw [← hmv] at HCA
                            have KEEP := Lib.hid (fun (w' : World) (hW : Below (wr.heap.size + 1) (wr.alloc (carryC cc)) w') => (⟨((bq2.trans (hW.mono (by omega))).cell (p := ⟨w8.heap.size, 0, none⟩) hwi).trans q0, ((bq2.trans (hW.mono (by omega))).cell (p := ⟨w8.heap.size, 1, none⟩) hwi).trans q1, (hW.cell (p := ⟨wr.heap.size, 0, none⟩) (by simp)).trans (by simp), (hW.cell (p := ⟨wr.heap.size, 2, none⟩) (by simp)).trans (by simp)⟩ : w'.cell? ⟨w8.heap.size, 0, none⟩ = some (.slice A ls.length c) ∧ w'.cell? ⟨w8.heap.size, 1, none⟩ = some (.slice A' bs.length c') ∧ w'.cell? ⟨wr.heap.size, 0, none⟩ = some (.int .i64 cc.box) ∧ w'.cell? ⟨wr.heap.size, 2, none⟩ = some (.int .i64 cc.to_)))
                            have hbX : Below (wr.heap.size + 1) (wr.alloc (carryC cc)) (wr.alloc (carryC cc)).drew := (Below.refl _ _).drew
                            have kC : SlRep 1 (flat intEnc) (wr.alloc (carryC cc)).drew (fun b => b < (wr.alloc (carryC cc)).drew.heap.size) ([] : List Int) (.slice none 0 0) := SlRep.nil_
                            have hbz2 := hbz.trans (bq2.mono (by omega))
                            clear hcc hix hmv hF7
                            go_wp2
                            go_region_held3 (fun w' => w'.cell? ⟨w8.heap.size, 0, none⟩ = some (.slice A ls.length c) ∧ w'.cell? ⟨w8.heap.size, 1, none⟩ = some (.slice A' bs.length c') ∧ w'.cell? ⟨wr.heap.size, 0, none⟩ = some (.int .i64 cc.box) ∧ w'.cell? ⟨wr.heap.size, 2, none⟩ = some (.int .i64 cc.to_)) (with_reducible exact KEEP.out _ hbX) (first
                              | (go_at_call 58; (with_reducible refine (HIXc.out _ (bq2.trans (hbX.mono (by omega)))).mono ?_); rintro e wI ⟨rfl, hb'⟩; have hbX := hbX.trans (hb'.mono (by have := hbX.size; simp only [World.size_alloc] at this; omega)))
                              | (go_at_call 57; (with_reducible refine (HCA.out _ (bq2.trans (hbX.mono (by omega)))).mono ?_); rintro e wC ⟨vC, rfl, hownC, hb'⟩; have kC := hownC.toSl inS; have hbX := hbX.trans (hb'.mono (by have := hbX.size; simp only [World.size_alloc] at this; omega)))
                              | (go_at_call 53; (with_reducible refine (HHA.out _ _ _ (hbz2.trans (hbX.mono (by omega))) kC).mono ?_); rintro e wH ⟨rfl, hb'⟩; have hbX := hbX.trans (hb'.mono (by have := hbX.size; simp only [World.size_alloc] at this; omega))))
                            have b9 := bq2.trans (hbX.mono (by omega))
                            have hb9 := hbi.trans (b9.mono (by omega))
                            clear KEEP HIXc HCA hb' kC
                            cases hhh : hasB states (movedF bs x cc)
                            · have HE := Lib.hid (show closedE ls bs x0 x1 states = 14 by
                                have h1 : stepsB ls bs states x = false := by rw [HI.out, HD2.out]; simp [hhh]
                                rw [HCL.out, HN.out, HD.out, if_neg]; simp [clG, h1])
                              go_wp2
                              go_ret
                              exact ⟨ret_int HE.out.symm, Bi.trans (b9.mono (by omega))⟩
                            · have HE := Lib.hid (show stepsB ls bs states x = (st.drop (j + 1)).all (fun cc => hasB states (movedF bs x cc)) by rw [HI.out, HD2.out]; simp [hhh])
                              go_wp2
                              go_roundw
                              case rel => exact ⟨j + 1, by omega, by go_num, HE, hb9⟩
                              case measure => simp [intOf]; omega
                          · have HE := Lib.hid (show clG ls bs states none states = clG ls bs states (prevO states (k' + 1 + 1)) (states.drop (k' + 1 + 1)) by
                              have h1 : stepsB ls bs states x = true := by rw [HI.out, List.drop_of_length_le (by omega)]; rfl
                              rw [HN.out, HD.out, clG, h1, HCZ.out, HAS.out, HPV.out]; rfl)
                            go_wp2
                            go_roundw
                            case rel => exact ⟨k' + 1 + 1, by omega, by go_num, HE, hbw⟩
                            case measure => simp [intOf]; omega
                      · have HE := Lib.hid (show closedE ls bs x0 x1 states = 14 by
                          rw [HCL.out, HN.out, HD.out, if_neg]; simp [clG, HPQ.out, ascB, hcm])
                        have hcm2 : 0 ≤ cmpL q x := by omega
                        go_wp2
                        go_ret
                        exact ⟨ret_int HE.out.symm, Bw.trans (HBC.mono (by omega))⟩
                  · have HE := Lib.hid (show closedE ls bs x0 x1 states = 14 by
                      have hcf : ¬ checkF ls bs x = 0 := by rw [← check_eq H0.out]; exact hck
                      rw [HCL.out, HN.out, HD.out, if_neg]; simp [clG, hcf])
                    obtain ⟨n1, n2⟩ := ne_bool hck
                    clear hx hck
                    go_wp2_with fail
                    refine HCX.out.mono ?_
                    rintro e w6 ⟨rfl, hb6⟩
                    go_wp2
                    go_ret
                    exact ⟨ret_int HE.out.symm, Br.trans (hb6.mono (by omega))⟩
                · have HE := Lib.hid (show closedE ls bs x0 x1 states = 0 by
                    rw [HCL.out, HN.out, List.drop_of_length_le (by omega), if_pos]; rfl)
                  go_wp2
                  go_ret
                  exact ⟨ret_int HE.out.symm, Br⟩
            · have HE := Lib.hid (show closedE ls bs x0 x1 states = 14 by rw [HCL.out, hh0, hh1]; rfl)
              go_wp2
              go_ret
              exact ⟨ret_int HE.out.symm, B4.trans (hb5.mono B4.size)⟩
    · have HCL := Lib.hid (show closedE ls bs x0 x1 states = possE ls bs x1 by simp [closedE, hp0, hp1])
      have HP0 := Lib.hid hp0
      obtain ⟨n1, n2⟩ := ne_bool hp1
      clear hp0 hp1
      go_enter Try.func22, Try.ntmps22
      go_wp2
      go_loopw [19] (fun i wr => ∃ k : Nat, k ≤ 1 ∧ i = .int .i64 k ∧ Below (w.heap.size + 2) ((w.alloc (.cells #[.slice A0 x0.length c0, .slice A1 x1.length c1] 46)).alloc (.cells #[.slice A3 states.length c3] 35)) wr) (fun i _ => 2 - (intOf i).toNat)
      case atStart => exact ⟨0, by omega, rfl, Below.refl _ _⟩
      case round =>
        obtain ⟨k, hk, rfl, hb⟩ := hrel
        have B1 := b0.trans (hb.mono (by omega))
        have hsz := hb.size
        simp only [World.size_alloc] at hsz
        rcases (show k = 0 ∨ k = 1 by omega) with rfl | rfl
        · have HPX := Lib.hid (HP.out x0 _ wr B1 HX0.out)
          rw [HP0.out] at HPX
          go_wp2_with fail
          refine HPX.out.mono ?_
          rintro e w3 ⟨rfl, hb3⟩
          go_wp2
          go_roundw
          case rel => exact ⟨1, by omega, rfl, hb.trans (hb3.mono (by omega))⟩
          case measure => simp [intOf]
        · go_wp2_with fail
          refine (HP.out x1 _ wr B1 HX1.out).mono ?_
          rintro e w3 ⟨rfl, hb3⟩
          go_wp2
          go_ret
          exact ⟨ret_int HCL.out.symm, B1.trans (hb3.mono B1.size)⟩
  · have HCL := Lib.hid (show closedE ls bs x0 x1 states = possE ls bs x0 by simp [closedE, hp0])
    obtain ⟨n1, n2⟩ := ne_bool hp0
    clear hp0
    go_enter Try.func22, Try.ntmps22
    go_wp2
    go_loopw [19] (fun i wr => i = .int .i64 0 ∧ Below (w.heap.size + 2) ((w.alloc (.cells #[.slice A0 x0.length c0, .slice A1 x1.length c1] 46)).alloc (.cells #[.slice A3 states.length c3] 35)) wr) (fun i _ => 2 - (intOf i).toNat)
    case atStart => exact ⟨rfl, Below.refl _ _⟩
    case round =>
      obtain ⟨rfl, hb⟩ := hrel
      have B1 := b0.trans (hb.mono (by omega))
      go_wp2_with fail
      refine (HP.out x0 _ wr B1 HX0.out).mono ?_
      rintro e w3 ⟨rfl, hb3⟩
      go_wp2
      go_ret
      exact ⟨ret_int HCL.out.symm, B1.trans (hb3.mono B1.size)⟩
end Go.Proofs.Ythabpkigflldmaa
