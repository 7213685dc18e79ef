/- Closed of the reference. -/
import Derived.Test.YthabpkigflldmaaLaS
namespace Go.Proofs.Ythabpkigflldmaa
open Go.RowKit

theorem ix_has (states : List (List Int)) (x : List Int) : (hasB states x = false ∧ stIx states x = -1) ∨ (hasB states x = true ∧ ∃ k : Nat, stIx states x = (k : Int)) := by
  rcases idxF_cases (fun y => eqL eqI y x) states with ⟨h1, h2⟩ | ⟨k, y, h1, h2, h3, _⟩
  · exact .inl ⟨by unfold hasB; rw [List.any_eq_false]; intro y hy; rw [h2 y hy]; exact Bool.false_ne_true, h1⟩
  · exact .inr ⟨by unfold hasB; rw [List.any_eq_true]; exact ⟨y, List.mem_of_getElem? h2, h3⟩, k, h1⟩
def okG (ls : List Shelf) (bs : List Box) : Option (List Int) → List (List Int) → Bool
  | _, [] => true
  | p, x :: r => decide (possE ls bs x = 0) && ascB p x && okG ls bs (some x) r
theorem clG_split {ls : List Shelf} {bs : List Box} (states : List (List Int)) (hst : startE ls bs = 0) : ∀ (l : List (List Int)) (p : Option (List Int)), clG ls bs states p l = (okG ls bs p l && l.all (stepsB ls bs states))
  | [], _ => rfl
  | x :: r, p => by
    rw [clG, okG, clG_split states hst r, List.all_cons, possE, if_pos hst]
    generalize decide (checkF ls bs x = 0) = a
    generalize ascB p x = b
    generalize stepsB ls bs states x = c
    cases a <;> cases b <;> cases c <;> simp
theorem okG_all {ls : List Shelf} {bs : List Box} : ∀ (l : List (List Int)) (p : Option (List Int)), okG ls bs p l = true → ∀ x ∈ l, possE ls bs x = 0
  | [], _, _, _, h => by cases h
  | x :: r, p, h, y, hy => by
    simp only [okG, Bool.and_eq_true, decide_eq_true_eq] at h
    rcases List.mem_cons.1 hy with rfl | hy
    · exact h.1.1
    · exact okG_all r _ h.2 y hy
set_option maxRecDepth 100000 in
set_option maxHeartbeats 8000000 in
theorem rClosed_c (ls : List Shelf) (bs : List Box) (x0 x1 : List Int) (states : List (List Int)) (vl vb v0 v1 vs : Value) (w : World) (B : Nat) (hB : B ≤ w.heap.size) (hl : Shelves w B ls vl) (hbx : Boxes w B bs vb) (h0 : Ints w B x0 v0) (h1 : Ints w B x1 v1) (hs : States w B states vs) :
    Calls Try.prog 24 #[.agg #[v0, v1], vl, vb, vs] w fun e w' => e = .returned (.int .i64 (closedE ls bs x0 x1 states)) ∧ Below w.heap.size w w' := by
  have HP := Lib.hid (fun (x : List Int) (vx : Value) (W : World) (hW : Below w.heap.size w W) (hx : Ints W B x vx) => rpossible_c ls bs x vl vb vx W B (Nat.le_trans hB hW.size) (hl.below shS (hW.mono hB)) (hbx.below boS (hW.mono hB)) hx)
  have HX0 := Lib.hid h0
  have HX1 := Lib.hid h1
  obtain ⟨A0, c0, rfl, ha1, ha2, _⟩ := id h0
  obtain ⟨A1, c1, rfl, hb1, hb2, _⟩ := id h1
  obtain ⟨A, c, rfl, hc1, hc2, _⟩ := id hl
  obtain ⟨A', c', rfl, hd1, hd2, _⟩ := id hbx
  obtain ⟨A3, c3, rfl, he1, he2, _⟩ := id hs
  have i0 : ∀ w, (Instr.index 46 (.agg #[.slice A0 x0.length c0, .slice A1 x1.length c1]) (.int .i64 0)).run Try.prog w = .ok (.slice A0 x0.length c0) w := fun _ => by kernel_rfl
  have i1 : ∀ w, (Instr.index 46 (.agg #[.slice A0 x0.length c0, .slice A1 x1.length c1]) (.int .i64 1)).run Try.prog w = .ok (.slice A1 x1.length c1) w := fun _ => by kernel_rfl
  have HIX := Lib.hid (fun (x : List Int) (vx : Value) (W : World) (hW : Below w.heap.size w W) (hx : SlRep 1 (flat intEnc) W (fun b => b < W.heap.size) x vx) => rindex_c x states (.slice A3 states.length c3) vx W W.heap.size (Nat.le_refl _) ((hs.below saS (hW.mono hB)).mono saS (Nat.le_trans hB hW.size)) hx)
  have b0 : Below w.heap.size w (w.alloc (.cells #[.slice A0 x0.length c0, .slice A1 x1.length c1] 46)) := (Below.refl _ _).alloc (Nat.le_refl _) _
  have ZK := Lib.hid (fun (W : World) (hW : Below (w.heap.size + 1) (w.alloc (.cells #[.slice A0 x0.length c0, .slice A1 x1.length c1] 46)) W) => (⟨(hW.cell (p := ⟨w.heap.size, 0, none⟩) (by simp)).trans (by simp), (hW.cell (p := ⟨w.heap.size, 1, none⟩) (by simp)).trans (by simp), by have := hW.size; simp at this; omega⟩ : W.cell? ⟨w.heap.size, 0, none⟩ = some (.slice A0 x0.length c0) ∧ W.cell? ⟨w.heap.size, 1, none⟩ = some (.slice A1 x1.length c1) ∧ w.heap.size < W.heap.size))
  go_enter Try.func24, Try.ntmps24
  go_wp2
  go_loopw [19] (fun i wr => ∃ k : Nat, k ≤ 2 ∧ i = .int .i64 k ∧ Hid (1 ≤ k → possE ls bs x0 = 0) ∧ Hid (2 ≤ k → possE ls bs x1 = 0) ∧ Below (w.heap.size + 1) (w.alloc (.cells #[.slice A0 x0.length c0, .slice A1 x1.length c1] 46)) wr) (fun i _ => 2 - (intOf i).toNat)
  case atStart => exact ⟨0, by omega, rfl, Lib.hid (fun h => by omega), Lib.hid (fun h => by omega), Below.refl _ _⟩
  case round =>
    obtain ⟨k, hk, rfl, HK0, HK1, hb⟩ := hrel
    have B1 := b0.trans (hb.mono (by omega))
    have hsz := hb.size
    simp only [World.size_alloc] at hsz
    rcases (show k = 0 ∨ k = 1 ∨ k = 2 by omega) with rfl | rfl | rfl
    · have HPX := Lib.hid (HP.out x0 _ wr B1 (HX0.out.below inS (B1.mono hB)))
      by_cases hp0 : possE ls bs x0 = 0
      · have HE := Lib.hid (fun (_ : 1 ≤ 0 + 1) => hp0)
        rw [hp0] at HPX
        clear hp0
        go_wp2_with fail
        refine HPX.out.mono ?_
        rintro e w3 ⟨rfl, hb3⟩
        go_wp2
        go_roundw
        case rel => exact ⟨1, by omega, rfl, HE, Lib.hid (fun h => by omega), hb.trans (hb3.mono (by omega))⟩
        case measure => simp [intOf]
      · have HE := Lib.hid (show closedE ls bs x0 x1 states = possE ls bs x0 by simp [closedE, hp0])
        obtain ⟨n1, n2⟩ := ne_bool hp0
        clear hp0
        go_wp2_with fail
        refine HPX.out.mono ?_
        rintro e w3 ⟨rfl, hb3⟩
        go_wp2
        go_ret
        exact ⟨ret_int HE.out.symm, B1.trans (hb3.mono (by omega))⟩
    · have HPX := Lib.hid (HP.out x1 _ wr B1 (HX1.out.below inS (B1.mono hB)))
      have HP0 := Lib.hid (HK0.out (Nat.le_refl _))
      by_cases hp1 : possE ls bs x1 = 0
      · have HE := Lib.hid (fun (_ : 2 ≤ 1 + 1) => hp1)
        rw [hp1] at HPX
        clear hp1
        go_wp2_with fail
        refine HPX.out.mono ?_
        rintro e w3 ⟨rfl, hb3⟩
        go_wp2
        go_roundw
        case rel => exact ⟨2, by omega, rfl, Lib.hid (fun _ => HP0.out), HE, hb.trans (hb3.mono (by omega))⟩
        case measure => simp [intOf]
      · have HE := Lib.hid (show closedE ls bs x0 x1 states = possE ls bs x1 by simp [closedE, HP0.out, hp1])
        obtain ⟨n1, n2⟩ := ne_bool hp1
        clear hp1
        go_wp2_with fail
        refine HPX.out.mono ?_
        rintro e w3 ⟨rfl, hb3⟩
        go_wp2
        go_ret
        exact ⟨ret_int HE.out.symm, B1.trans (hb3.mono (by omega))⟩
    · have hp0 := HK0.out (by omega)
      have hp1 := HK1.out (by omega)
      have hst := (poss_zero hp0).1
      have HCL := Lib.hid (show closedE ls bs x0 x1 states = if (hasB states x0 && !hasB states x1 && clG ls bs states none states) = true then 0 else 14 by simp [closedE, hp0, hp1])
      rw [clG_split states hst] at HCL
      have H0 := Lib.hid hst
      have HN0 := Lib.hid (show okG ls bs none states = okG ls bs (prevO states 0) (states.drop 0) by simp [prevO])
      clear hp0 hp1 hst HK0 HK1 i0 i1
      obtain ⟨w8, rfl⟩ : ∃ w8 : World, w8 = wr := ⟨_, rfl⟩
      go_wp2
      go_loopw [32] (fun i wr => ∃ k : Nat, k ≤ states.length ∧ i = .int .i64 k ∧ Hid (okG ls bs none states = okG ls bs (prevO states k) (states.drop k)) ∧ Below (w.heap.size + 1) (w.alloc (.cells #[.slice A0 x0.length c0, .slice A1 x1.length c1] 46)) wr) (fun i _ => states.length - (intOf i).toNat)
      case atStart => exact ⟨0, Nat.zero_le _, rfl, HN0, hb⟩
      case round =>
        clear HN0 hb B1 hsz
        obtain ⟨k, hk, rfl, HN, hbr⟩ := hrel
        have hsr := hbr.size
        simp only [World.size_alloc] at hsr
        have Br := b0.trans (hbr.mono (by omega))
        by_cases hlt : k < states.length
        · obtain ⟨x, hx⟩ := get_at states hlt
          have HD := Lib.hid (drop_at hx)
          have HPV := Lib.hid (show prevO states (k + 1) = some x by simp [prevO, hx])
          obtain ⟨b3, off3, vx, hA3, hbB3, g0, hvx⟩ := States.at_ (hs.below saS (Br.mono hB)) hx
          subst hA3
          obtain ⟨Ax, cx, rfl, -⟩ := id hvx
          have hb3l : b3 < wr.heap.size := by omega
          have HPX := Lib.hid (HP.out x _ wr Br hvx)
          by_cases hck : possE ls bs x = 0
          · rw [hck] at HPX
            have HCZ := Lib.hid (show decide (possE ls bs x = 0) = true by simp [hck])
            clear hck
            rcases Nat.eq_zero_or_pos k with hk0 | hk0
            · subst hk0
              simp only [Nat.add_zero] at g0
              have HE := Lib.hid (show okG ls bs none states = okG ls bs (prevO states (0 + 1)) (states.drop (0 + 1)) by
                rw [HN.out, HD.out, okG, HCZ.out, HPV.out]; rfl)
              clear hx
              go_wp2_with fail
              refine HPX.out.mono ?_
              rintro e w6 ⟨rfl, hb6⟩
              go_wp2
              refine ⟨?_, ?measure⟩
              (repeat apply Exists.intro)
              refine ⟨?rel, rfl⟩
              case rel => exact ⟨0 + 1, by omega, by go_num, HE, hbr.trans (hb6.mono (by omega))⟩
              case measure => simp [intOf]; omega
            · obtain ⟨k', rfl⟩ : ∃ k', k = k' + 1 := ⟨k - 1, by omega⟩
              obtain ⟨q, hq⟩ := get_at states (show k' < states.length by omega)
              have HPQ := Lib.hid (show prevO states (k' + 1) = some q by simp [prevO, hq])
              obtain ⟨b4, off4, vq, hA4, hbB4, g4, hvq⟩ := States.at_ (hs.below saS (Br.mono hB)) hq
              cases hA4
              have HVQ := Lib.hid hvq
              have HVX := Lib.hid hvx
              have hki0 : (0 : Int) < (k' : Int) + 1 := by omega
              have hki1 : (k' : Int) < (states.length : Int) := by omega
              clear hx hq
              go_wp2_with fail
              refine HPX.out.mono ?_
              rintro e w6 ⟨rfl, hb6⟩
              have hs6 := hb6.size
              have y4 := (hb6.cell (p := ⟨b3, off3 + k', none⟩) hb3l).trans g4
              have hb36 : b3 < w6.heap.size := by omega
              have HCQ := Lib.hid (Calls.below_of (less_c q x _ _ w6 (fun b => b < B) (fun b hb => by have : b < B := hb; omega) (HVQ.out.below inS (hb6.mono (by omega))) (HVX.out.below inS (hb6.mono (by omega)))))
              clear g0 g4 hvq hvx HPX
              cases hlq : ltL q x
              · rw [hlq] at HCQ
                have HE := Lib.hid (show closedE ls bs x0 x1 states = 14 by
                  have h1 : ascB (prevO states (k' + 1)) x = false := by rw [HPQ.out]; exact hlq
                  have h2 : okG ls bs none states = false := by rw [HN.out, HD.out, okG, h1]; simp
                  rw [HCL.out, h2]; simp)
                clear hlq
                go_wp2_with fail
                refine HCQ.out.mono ?_
                rintro e w7 ⟨rfl, hb7⟩
                go_wp2
                go_ret
                exact ⟨ret_int HE.out.symm, (Br.trans (hb6.mono (by omega))).trans (hb7.mono (by omega))⟩
              · rw [hlq] at HCQ
                have HE := Lib.hid (show okG ls bs none states = okG ls bs (prevO states (k' + 1 + 1)) (states.drop (k' + 1 + 1)) by
                  have h1 : ascB (prevO states (k' + 1)) x = true := by rw [HPQ.out]; exact hlq
                  rw [HN.out, HD.out, okG, HCZ.out, h1, HPV.out]; rfl)
                clear hlq
                go_wp2_with fail
                refine HCQ.out.mono ?_
                rintro e w7 ⟨rfl, hb7⟩
                go_wp2
                refine ⟨?_, ?measure⟩
                (repeat apply Exists.intro)
                refine ⟨?rel, rfl⟩
                case rel => exact ⟨k' + 1 + 1, by omega, by go_num, HE, (hbr.trans (hb6.mono (by omega))).trans (hb7.mono (by omega))⟩
                case measure => simp [intOf]; omega
          · have HE := Lib.hid (show closedE ls bs x0 x1 states = 14 by
              have h2 : okG ls bs none states = false := by rw [HN.out, HD.out, okG]; simp [hck]
              rw [HCL.out, h2]; simp)
            obtain ⟨n1, n2⟩ := ne_bool hck
            clear hck hx
            go_wp2_with fail
            refine HPX.out.mono ?_
            rintro e w6 ⟨rfl, hb6⟩
            go_wp2
            go_ret
            exact ⟨ret_int HE.out.symm, Br.trans (hb6.mono (by omega))⟩
        · have hok : okG ls bs none states = true := by rw [HN.out, List.drop_of_length_le (by omega)]; rfl
          have HOK := Lib.hid (okG_all _ _ hok)
          rw [hok] at HCL
          clear hok HN
          obtain ⟨z0, z1, zl⟩ := ZK.out wr hbr
          have HI0 := Lib.hid (HIX.out x0 _ wr Br ((HX0.out.below inS (Br.mono hB)).mono inS (by omega)))
          rcases ix_has states x0 with ⟨e1, e2⟩ | ⟨e1, m, e2⟩
          · rw [e2] at HI0
            have HE := Lib.hid (show closedE ls bs x0 x1 states = 14 by rw [HCL.out, e1]; rfl)
            clear e1 e2
            go_wp2_with fail
            refine HI0.out.mono ?_
            rintro e w6 ⟨rfl, hb6⟩
            go_wp2
            go_ret
            exact ⟨ret_int HE.out.symm, Br.trans (hb6.mono (by omega))⟩
          · rw [e2] at HI0
            rw [e1] at HCL
            clear e1 e2
            go_wp2_with fail
            refine HI0.out.mono ?_
            rintro e w6 ⟨rfl, hb6⟩
            have B6 := Br.trans (hb6.mono (by omega))
            have hbr6 := hbr.trans (hb6.mono (by omega))
            have hs6 := hb6.size
            clear z0 z1 zl
            obtain ⟨z0, z1, zl⟩ := ZK.out w6 hbr6
            have HI1 := Lib.hid (HIX.out x1 _ w6 B6 ((HX1.out.below inS (B6.mono hB)).mono inS (by omega)))
            rcases ix_has states x1 with ⟨e1, e2⟩ | ⟨e1, m', e2⟩
            · rw [e2] at HI1
              rw [e1] at HCL
              simp only [Bool.true_and, Bool.not_false] at HCL
              clear e1 e2
              go_wp2_with fail
              refine HI1.out.mono ?_
              rintro e w7 ⟨rfl, hb7⟩
              have B7 := B6.trans (hb7.mono (by omega))
              have hbr7 := hbr6.trans (hb7.mono (by omega))
              have HN0 := Lib.hid (show states.all (stepsB ls bs states) = (states.drop 0).all (stepsB ls bs states) by simp)
              clear z0 z1 zl HI0 HI1 hb6 hb7 hbr hbr6 B6 Br ZK HP HX0 HX1 hsr
              obtain ⟨w9, rfl⟩ : ∃ w9 : World, w9 = wr := ⟨_, rfl⟩
              go_wp2
              go_loopw [71] (fun i wr => ∃ k : Nat, k ≤ states.length ∧ i = .int .i64 k ∧ Hid (states.all (stepsB ls bs states) = (states.drop k).all (stepsB ls bs states)) ∧ Below w.heap.size w wr) (fun i _ => states.length - (intOf i).toNat)
              case atStart => exact ⟨0, Nat.zero_le _, rfl, HN0, B7⟩
              case round =>
                clear HN0 B7 hbr7
                obtain ⟨k, hk, rfl, HN, Br⟩ := hrel
                have hsr := Br.size
                by_cases hlt : k < states.length
                · obtain ⟨x, hx⟩ := get_at states hlt
                  have HD := Lib.hid (drop_at hx)
                  have HRR := Lib.hid (poss_zero (HOK.out x (List.mem_of_getElem? hx))).2.1
                  obtain ⟨b3, off3, vx, hA3, hbB3, g0, hvx⟩ := States.at_ (hs.below saS (Br.mono hB)) hx
                  subst hA3
                  obtain ⟨Ax, cx, rfl, -⟩ := id hvx
                  have hb3l : b3 < wr.heap.size := by omega
                  have HSX := Lib.hid (rsteps_c ls bs x _ _ _ wr B (by omega) (hl.below shS (Br.mono hB)) (hbx.below boS (Br.mono hB)) hvx H0.out HRR.out)
                  clear hx
                  go_wp2_with fail
                  refine HSX.out.mono ?_
                  rintro e w7 ⟨v7, rfl, hown7, hb7⟩
                  have B7 := Br.trans (hb7.mono hsr)
                  have hvx7 := hvx.below inS (hb7.mono (by omega))
                  have hst7 := hown7.toFlat caS
                  have hlt7 := hown7.own_lt
                  have hs7 := hb7.size
                  obtain ⟨wq, rfl⟩ : ∃ wq : World, wq = wr := ⟨_, rfl⟩
                  have HMB := Lib.hid (fun (cc : Carry) (hc : cc ∈ stepsF ls bs x) => (by
                    obtain ⟨i, b, sh, h1, h2, _, _, rfl⟩ := mem_steps.1 hc
                    have h4 := bxIx_at (asc_of H0.out).2 h1
                    exact ⟨i, h4, by rw [HRR.out.1]; exact lt_of_at h1⟩ : ∃ i : Nat, bxIx bs cc.box = (i : Int) ∧ i < x.length))
                  have HSB := Lib.hid (show stepsB ls bs states x = (stepsF ls bs x).all (fun cc => hasB states (movedF bs x cc)) from rfl)
                  have hst4 : (stepsF ls bs x).length ≤ 4096 := by
                    have h1 := stepsG_len ls bs x bs 0
                    have h2 : ls.length * bs.length ≤ 32 * 128 := Nat.mul_le_mul (shelves_len (start_ok H0.out).1) (boxes_ok (start_ok H0.out).2.1).1
                    unfold stepsF; omega
                  have hxl : x.length ≤ 128 := by rw [HRR.out.1]; exact (boxes_ok (start_ok H0.out).2.1).1
                  generalize stepsF ls bs x = st at *
                  obtain ⟨A7, c7, rfl, hA7, hA7', -⟩ := id hst7
                  have HI0 := Lib.hid (show stepsB ls bs states x = (st.drop 0).all (fun cc => hasB states (movedF bs x cc)) by rw [HSB.out]; rfl)
                  clear hown7 HSX hvx g0
                  go_wp2
                  go_loopw [80] (fun i wi => ∃ j : Nat, j ≤ st.length ∧ i = .int .i64 j ∧ Hid (stepsB ls bs states x = (st.drop j).all (fun cc => hasB states (movedF bs x cc))) ∧ Below w7.heap.size w7 wi) (fun i _ => st.length - (intOf i).toNat)
                  case atStart => exact ⟨0, Nat.zero_le _, rfl, HI0, Below.refl _ _⟩
                  case round =>
                    obtain ⟨j, hj, rfl, HI, hbi⟩ := hrel
                    clear HI0
                    have hsi := hbi.size
                    have hs7' := B7.size
                    have Bi := B7.trans (hbi.mono (by omega))
                    by_cases hlt2 : j < st.length
                    · obtain ⟨cc, hcc⟩ := get_at st hlt2
                      obtain ⟨ix, hix, hixl⟩ := HMB.out cc (List.mem_of_getElem? hcc)
                      have HD2 := Lib.hid (drop_at hcc)
                      obtain ⟨b7, off7, hA7e, hF7, t0, t1, t2⟩ := Carries.at_ (hst7.frame caS (fun b hb => hbi.block b (hlt7 b hb).2)) hcc
                      have hb7l : b7 < wr.heap.size := by have := (hlt7 b7 hF7).2; omega
                      subst hA7e
                      have bq2 : Below wr.heap.size wr (wr.alloc (carryC cc)) := (Below.refl _ _).alloc (Nat.le_refl _) _
                      have Bq := Bi.trans (bq2.mono (by omega))
                      have hsq := bq2.size
                      have HMV := Lib.hid (moved_c bs x cc (.slice A' bs.length c') (.slice Ax x.length cx) ix (wr.alloc (carryC cc)) B (by omega) (hbx.below boS (Bq.mono hB)) ((hvx7.below inS (hbi.mono (by omega))).below inS (bq2.mono (by omega))) hix hixl (by omega))
                      clear hcc hix hF7
                      go_wp2_with fail
                      refine HMV.out.mono ?_
                      rintro e w10 ⟨v10, rfl, hown10, hb10⟩
                      have B10 := Bq.trans (hb10.mono (by omega))
                      have b10 := bq2.trans (hb10.mono (by omega))
                      have h10 := hown10.toSl inS
                      obtain ⟨A10, c10, rfl, -⟩ := id h10
                      have HI1 := Lib.hid (HIX.out (movedF bs x cc) _ w10 B10 h10)
                      clear hown10 HMV
                      rcases ix_has states (movedF bs x cc) with ⟨e1, e2⟩ | ⟨e1, m1, e2⟩
                      · rw [e2] at HI1
                        have HE := Lib.hid (show closedE ls bs x0 x1 states = 14 by
                          have h1 : stepsB ls bs states x = false := by rw [HI.out, HD2.out]; simp [e1]
                          rw [HCL.out, HN.out, HD.out, if_neg]; simp [h1])
                        clear e1 e2
                        go_wp2_with fail
                        refine HI1.out.mono ?_
                        rintro e w11 ⟨rfl, hb11⟩
                        go_wp2
                        go_ret
                        exact ⟨ret_int HE.out.symm, B10.trans (hb11.mono B10.size)⟩
                      · rw [e2] at HI1
                        have HE := Lib.hid (show stepsB ls bs states x = (st.drop (j + 1)).all (fun cc => hasB states (movedF bs x cc)) by rw [HI.out, HD2.out]; simp [e1])
                        clear e1 e2
                        go_wp2_with fail
                        refine HI1.out.mono ?_
                        rintro e w11 ⟨rfl, hb11⟩
                        have b11 := b10.trans (hb11.mono b10.size)
                        go_wp2
                        go_roundw
                        case rel => exact ⟨j + 1, by omega, by go_num, HE, hbi.trans (b11.mono (by omega))⟩
                        case measure => simp [intOf]; omega
                    · have HE := Lib.hid (show states.all (stepsB ls bs states) = (states.drop (k + 1)).all (stepsB ls bs states) by
                        have h1 : stepsB ls bs states x = true := by rw [HI.out, List.drop_of_length_le (by omega)]; rfl
                        rw [HN.out, HD.out, List.all_cons, h1, Bool.true_and])
                      go_wp2
                      go_roundw
                      case rel => exact ⟨k + 1, by omega, by go_num, HE, Bi⟩
                      case measure => simp [intOf]; omega
                · have HE := Lib.hid (show closedE ls bs x0 x1 states = 0 by rw [HCL.out, HN.out, List.drop_of_length_le (by omega)]; rfl)
                  go_wp2
                  go_ret
                  exact ⟨ret_int HE.out.symm, Br⟩
            · rw [e2] at HI1
              have HE := Lib.hid (show closedE ls bs x0 x1 states = 14 by rw [HCL.out, e1]; rfl)
              have hm : ((m' : Int) ≥ 0) := by omega
              clear e1 e2
              go_wp2_with fail
              refine HI1.out.mono ?_
              rintro e w7 ⟨rfl, hb7⟩
              go_wp2
              go_ret
              exact ⟨ret_int HE.out.symm, B6.trans (hb7.mono (by omega))⟩
end Go.Proofs.Ythabpkigflldmaa
