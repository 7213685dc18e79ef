/- Apply and Reverse of the reference. -/
import Derived.Test.YthabpkigflldmaaLaS
namespace Go.Proofs.Ythabpkigflldmaa
open Go.RowKit

set_option maxHeartbeats 1000000 in
theorem rApply_bad (ls : List Shelf) (bs : List Box) (at_ : List Int) (vl vb va vp : Value) (w : World) (B : Nat) (hB : B ≤ w.heap.size) (hl : Shelves w B ls vl) (hbx : Boxes w B bs vb) (ha : Ints w B at_ va) (hp : possE ls bs at_ ≠ 0) :
    Calls Try.prog 34 #[vl, vb, va, vp] w fun e w' => e = .returned (.tuple #[.slice none 0 0, .int .i64 (-1), .int .i64 (possE ls bs at_)]) ∧ Below w.heap.size w w' := by
  have HO := Lib.hid (rpossible_c ls bs at_ vl vb va w B hB hl hbx ha)
  obtain ⟨n1, n2⟩ := ne_bool hp
  clear hp
  go_enter Try.func34, Try.ntmps34
  go_wp2_with fail
  refine HO.out.mono ?_
  rintro e w1 ⟨rfl, hb1⟩
  go_wp2
  go_ret3
  exact ⟨rfl, hb1⟩
set_option maxRecDepth 10000 in
set_option maxHeartbeats 4000000 in
theorem rApply_ok (ls : List Shelf) (bs : List Box) (at_ : List Int) (plan : List Carry) (vl vb va vp : Value) (w : World) (B : Nat) (hB : B ≤ w.heap.size) (hl : Shelves w B ls vl) (hbx : Boxes w B bs vb) (ha : Ints w B at_ va) (hpl : Carries w B plan vp) (hp : possE ls bs at_ = 0) :
    Calls Try.prog 34 #[vl, vb, va, vp] w (ApplyPost ls bs at_ plan w) := by
  have HO := Lib.hid (rpossible_c ls bs at_ vl vb va w B hB hl hbx ha)
  rw [hp] at HO
  obtain ⟨hst, hr, _⟩ := poss_zero hp
  have h128 := (boxes_ok (start_ok hst).2.1).1
  have hlen := hr.1
  have hal : at_.length ≤ 128 := by omega
  have HBI := Lib.hid (fun (u : Int) (W : World) (hW : Below w.heap.size w W) => rbxIx_c u bs vb W B (Nat.le_trans hB hW.size) (hbx.below boS (hW.mono hB)))
  have HSI := Lib.hid (fun (u : Int) (W : World) (hW : Below w.heap.size w W) => rshIx_c u ls vl W B (Nat.le_trans hB hW.size) (hl.below shS (hW.mono hB)))
  have HHE := Lib.hid (fun (at1 : List Int) (v1 : Value) (W : World) (hn1 : at1.length = bs.length) (h1 : SlRep 1 (flat intEnc) W (fun b => b < W.heap.size) at1 v1) (hW : Below w.heap.size w W) => heldB_c ls bs at1 vl vb v1 W W.heap.size (Nat.le_refl _) ((hl.below shS (hW.mono hB)).mono shS (Nat.le_trans hB hW.size)) ((hbx.below boS (hW.mono hB)).mono boS (Nat.le_trans hB hW.size)) h1 hst hn1)
  have HR0 := Lib.hid hr
  clear hp hst hr hlen
  obtain ⟨A, c, rfl, hc1, hc2, _⟩ := id hl
  obtain ⟨A', c', rfl, hd1, hd2, _⟩ := id hbx
  obtain ⟨A2, c2, rfl, he1, he2, _⟩ := id ha
  obtain ⟨A3, c3, rfl, hf1, hf2, _⟩ := id hpl
  have HN0 := Lib.hid (show failF ls bs at_ 0 plan = failF ls bs at_ 0 (plan.drop 0) ∧ finalF bs at_ plan = finalF bs at_ (plan.drop 0) by simp)
  go_enter Try.func34, Try.ntmps34
  go_wp2_with fail
  refine HO.out.mono ?_
  rintro e w1 ⟨rfl, hb1⟩
  have hs1 := hb1.size
  have ba : Below w1.heap.size w1 (w1.alloc (.cells #[] 3)) := (Below.refl _ _).alloc (Nat.le_refl _) _
  go_wp2_with (at_builtin; refine stop_intro ?_)
  refine stop_elim ?_
  refine wpList_append_rep rfl inS intE_ w1.heap.size (.tmp 23) (.tmp 24) rfl rfl (OwnRep.empty_new ?hg ?hb) rfl (ys := at_) (F := fun b => b < B) ?src ?F ?n (by decide) ?hbase ?_
  case hb => exact Nat.le_refl _
  case hg => rfl
  case src => exact (ha.below inS (hb1.mono hB)).below inS (ba.mono (by omega))
  case F => intro b' (hb' : b' < B); exact ⟨by simp only [World.size_alloc]; omega, show some w1.heap.size ≠ some b' by simp; omega⟩
  case hbase => simp only [World.size_alloc]; omega
  case n => simp; omega
  intro v2 w2 hown hg2 hat2
  rw [List.nil_append] at hown
  have hb2 : Below w1.heap.size w1 w2 := ba.trans ((Below.refl _ _).grown hg2 (by simp) (fun k hk => by cases hk; exact Nat.le_refl _))
  have B2 := hb1.trans (hb2.mono hs1)
  have hown := hown.base_le hs1
  clear hg2 hat2 ba
  go_wp2
  go_loopw [12, 28] (fun o i wr => ∃ (k : Nat) (at1 : List Int) (vo : Value), k ≤ plan.length ∧ i = .int .i64 k ∧ vo = o ∧ OwnRep 1 (flat intEnc) 3 w.heap.size wr at1 vo ∧ Hid (Right ls bs at1) ∧ Hid (failF ls bs at_ 0 plan = failF ls bs at1 k (plan.drop k) ∧ finalF bs at_ plan = finalF bs at1 (plan.drop k)) ∧ Below w.heap.size w wr) (fun _ i _ => plan.length - (intOf i).toNat)
  case atStart => exact ⟨0, at_, _, Nat.zero_le _, rfl, rfl, hown, HR0, HN0, B2⟩
  case round =>
    clear hown HN0 HR0 hb1 hb2 B2
    obtain ⟨k, at1, vo, hk, rfl, rfl, hown, HR, HN, B1⟩ := hrel
    have hs := B1.size
    by_cases hlt : k < plan.length
    · obtain ⟨x, hx⟩ := get_at plan hlt
      have HD := Lib.hid (drop_at hx)
      obtain ⟨b, off, rfl, hbB, g0, g1, g2⟩ := Carries.at_ (hpl.below caS (B1.mono hB)) hx
      have hbw : b < wr.heap.size := by omega
      clear hx
      have bq : Below wr.heap.size wr (wr.alloc (carryC x)) := (Below.refl _ _).alloc (Nat.le_refl _) _
      have Bq := B1.trans (bq.mono hs)
      have hal1 : at1.length = bs.length := HR.out.1
      have HAL := Lib.hid hal1
      clear hal1
      have ZK := Lib.hid (fun (W : World) (hW : Below (wr.heap.size + 1) (wr.alloc (carryC x)) W) => (⟨(hW.cell (p := ⟨wr.heap.size, 0, none⟩) (by simp)).trans (by simp), (hW.cell (p := ⟨wr.heap.size, 1, none⟩) (by simp)).trans (by simp), (hW.cell (p := ⟨wr.heap.size, 2, none⟩) (by simp)).trans (by simp), by have := hW.size; simp at this; omega⟩ : W.cell? ⟨wr.heap.size, 0, none⟩ = some (.int .i64 x.box) ∧ W.cell? ⟨wr.heap.size, 1, none⟩ = some (.int .i64 x.from_) ∧ W.cell? ⟨wr.heap.size, 2, none⟩ = some (.int .i64 x.to_) ∧ wr.heap.size < W.heap.size))
      have HBX := Lib.hid (HBI.out x.box _ Bq)
      by_cases h1 : bxIx bs x.box < 0
      · have HE := Lib.hid (show failF ls bs at_ 0 plan = ((k : Int), 7) ∧ ¬ (failF ls bs at_ 0 plan).2 = 0 by
          have : applyE ls bs at1 x = 7 := by simp [applyE, h1]
          rw [HN.out.1, HD.out]; simp [failF, this])
        go_wp2_with fail
        refine HBX.out.mono ?_
        rintro e w3 ⟨rfl, hb3⟩
        simp only [World.size_alloc] at hb3
        obtain ⟨y0, y1, y2, yl⟩ := ZK.out w3 hb3
        go_wp2
        go_ret3
        exact ⟨Bq.trans (hb3.mono (by omega)), by rw [if_neg HE.out.2, failV, HE.out.1]; rfl⟩
      · obtain ⟨ix, bb, hix, hbb, _⟩ := bxIx_some h1
        have hixl : ix < bs.length := lt_of_at hbb
        rw [hix] at HBX
        by_cases h2 : shIx ls x.to_ < 0
        · have HE := Lib.hid (show failF ls bs at_ 0 plan = ((k : Int), 7) ∧ ¬ (failF ls bs at_ 0 plan).2 = 0 by
            have : applyE ls bs at1 x = 7 := by simp [applyE, h2]
            rw [HN.out.1, HD.out]; simp [failF, this])
          clear hix h1 hbb
          go_wp2_with fail
          refine HBX.out.mono ?_
          rintro e w3 ⟨rfl, hb3⟩
          simp only [World.size_alloc] at hb3
          obtain ⟨y0, y1, y2, yl⟩ := ZK.out w3 hb3
          go_wp2_with fail
          refine (HSI.out x.to_ _ (Bq.trans (hb3.mono (by omega)))).mono ?_
          rintro e w4 ⟨rfl, hb4⟩
          go_wp2
          go_ret3
          exact ⟨(Bq.trans (hb3.mono (by omega))).trans (hb4.mono (by omega)), by rw [if_neg HE.out.2, failV, HE.out.1]; rfl⟩
        · obtain ⟨q, hq⟩ := get_at at1 (show ix < at1.length by rw [HAL.out]; exact hixl)
          have hg : at1.getD (bxIx bs x.box).toNat 0 = q := by simp [hix, List.getD_eq_getElem?_getD, hq]
          have hno : ¬ (bxIx bs x.box < 0 ∨ shIx ls x.to_ < 0) := by simp [h2]; omega
          have hmv := moved_at (at_ := at1) hix
          have hixa : ix < at1.length := lt_of_at hq
          have hsl := hown.toSl inS
          have hlto := hown.own_lt
          obtain ⟨Ao, co, rfl, -⟩ := id hsl
          obtain ⟨bo, offo, hAo, hbo, o0⟩ := Ints.at_ (hown.toFlat inS) hq
          subst hAo
          have hbol : bo < wr.heap.size := (hlto bo hbo).2
          have hki : (ix : Int) < (at1.length : Int) := by omega
          have HAE := Lib.hid (show applyE ls bs at1 x = if q ≠ x.from_ then 10 else if x.from_ = x.to_ then 1 else if heldB ls bs (at1.set ix x.to_) = false then 12 else 0 by
            unfold applyE; rw [if_neg hno, hg, hmv])
          have HMV := Lib.hid hmv
          have HRM := Lib.hid (show Right ls bs (at1.set ix x.to_) by rw [← hmv]; exact right_moved HR.out h2)
          have HSX := Lib.hid (fun (W : World) (hW : Below wr.heap.size wr W) => HSI.out x.to_ W (B1.trans (hW.mono hs)))
          have hnneg : ¬ shIx ls x.to_ < 0 := h2
          clear hix h1 hbb hg hno hmv hq
          have PRE : True := trivial
          by_cases h3 : q = x.from_
          · have hn3 : (q != x.from_) = false := by simpa using h3
            by_cases h4 : x.from_ = x.to_
            · have hn4 : (x.from_ == x.to_) = true := by simpa using h4
              have HE := Lib.hid (show failF ls bs at_ 0 plan = ((k : Int), 1) ∧ ¬ (failF ls bs at_ 0 plan).2 = 0 by
                have : applyE ls bs at1 x = 1 := by rw [HAE.out]; rw [if_neg (by simpa using h3), if_pos h4]
                rw [HN.out.1, HD.out]; simp [failF, this])
              clear h3 h4
              go_wp2_with fail
              refine HBX.out.mono ?_
              rintro e w3 ⟨rfl, hb3⟩
              simp only [World.size_alloc] at hb3
              have b3 := bq.trans (hb3.mono (by omega))
              obtain ⟨y0, y1, y2, yl⟩ := ZK.out w3 hb3
              go_wp2_with fail
              refine (HSX.out _ b3).mono ?_
              rintro e w4 ⟨rfl, hb4⟩
              have hb34 := hb3.trans (hb4.mono (by omega))
              have b4 := bq.trans (hb34.mono (by omega))
              have B4 := B1.trans (b4.mono hs)
              clear y0 y1 y2 yl
              obtain ⟨y0, y1, y2, yl⟩ := ZK.out w4 hb34
              have o4 := (b4.cell (p := ⟨bo, offo + ix, none⟩) hbol).trans o0
              have hbo4 : bo < w4.heap.size := by have := b4.size; omega
              clear o0
              go_wp2
              go_quiet (fail)
              go_wp2
              go_ret3
              exact ⟨below_drewN B4 _, by rw [if_neg HE.out.2, failV, HE.out.1]; rfl⟩
            · have hn4 : (x.from_ == x.to_) = false := by simpa using h4
              have HWI := Lib.hid (fun (W : World) (hW : Below wr.heap.size wr W) => with_c at1 (.slice (some ⟨bo, offo, none⟩) at1.length co) ix x.to_ W wr.heap.size hW.size (hsl.below inS hW) hixa (by have := HAL.out; omega))
              have HHX := Lib.hid (fun (v1 : Value) (W : World) (h1 : SlRep 1 (flat intEnc) W (fun b => b < W.heap.size) (at1.set ix x.to_) v1) (hW : Below wr.heap.size wr W) => HHE.out (at1.set ix x.to_) v1 W HRM.out.1 h1 (B1.trans (hW.mono hs)))
              cases hh : heldB ls bs (at1.set ix x.to_)
              · rw [hh] at HHX
                have HE := Lib.hid (show failF ls bs at_ 0 plan = ((k : Int), 12) ∧ ¬ (failF ls bs at_ 0 plan).2 = 0 by
                  have : applyE ls bs at1 x = 12 := by rw [HAE.out]; rw [if_neg (by simpa using h3), if_neg h4, if_pos hh]
                  rw [HN.out.1, HD.out]; simp [failF, this])
                clear h3 h4 hh
                go_wp2_with fail
                refine HBX.out.mono ?_
                rintro e w3 ⟨rfl, hb3⟩
                simp only [World.size_alloc] at hb3
                have b3 := bq.trans (hb3.mono (by omega))
                obtain ⟨y0, y1, y2, yl⟩ := ZK.out w3 hb3
                go_wp2_with fail
                refine (HSX.out _ b3).mono ?_
                rintro e w4 ⟨rfl, hb4⟩
                have hb34 := hb3.trans (hb4.mono (by omega))
                have b4 := bq.trans (hb34.mono (by omega))
                have B4 := B1.trans (b4.mono hs)
                clear y0 y1 y2 yl
                obtain ⟨y0, y1, y2, yl⟩ := ZK.out w4 hb34
                have o4 := (b4.cell (p := ⟨bo, offo + ix, none⟩) hbol).trans o0
                have hbo4 : bo < w4.heap.size := by have := b4.size; omega
                clear o0
                go_wp2
                go_quiet (fail)
                go_wp2_with fail
                refine (HWI.out _ (below_drewN b4 _)).mono ?_
                rintro e w5 ⟨v5, rfl, hown5, hb5⟩
                change Below w4.heap.size _ _ at hb5
                change OwnRep 1 (flat intEnc) 3 w4.heap.size _ _ _ at hown5
                have hs5 : w4.heap.size ≤ w5.heap.size := hb5.size
                have hs4 := b4.size
                have b5 := (below_drewN b4 _).trans (hb5.mono hs4)
                obtain ⟨A5, c5, rfl, -⟩ := id (hown5.toSl inS)
                rw [List.length_set] at hown5
                have h5 := hown5.toSl inS
                have HS5 := Lib.hid (HHX.out _ _ h5 b5)
                clear h5
                go_wp2_with fail
                refine HS5.out.mono ?_
                rintro e w6 ⟨rfl, hb6⟩
                go_wp2
                go_ret3
                exact ⟨(B1.trans (b5.mono hs)).trans (hb6.mono (by omega)), by rw [if_neg HE.out.2, failV, HE.out.1]; rfl⟩
              · rw [hh] at HHX
                have HE := Lib.hid (show failF ls bs at_ 0 plan = failF ls bs (at1.set ix x.to_) (k + 1) (plan.drop (k + 1)) ∧ finalF bs at_ plan = finalF bs (at1.set ix x.to_) (plan.drop (k + 1)) by
                  have : applyE ls bs at1 x = 0 := by rw [HAE.out, if_neg (by simpa using h3), if_neg h4, if_neg (by simp [hh])]
                  rw [HN.out.1, HN.out.2, HD.out]; simp [failF, finalF, this, HMV.out])
                clear h3 h4 hh
                go_wp2_with fail
                refine HBX.out.mono ?_
                rintro e w3 ⟨rfl, hb3⟩
                simp only [World.size_alloc] at hb3
                have b3 := bq.trans (hb3.mono (by omega))
                obtain ⟨y0, y1, y2, yl⟩ := ZK.out w3 hb3
                go_wp2_with fail
                refine (HSX.out _ b3).mono ?_
                rintro e w4 ⟨rfl, hb4⟩
                have hb34 := hb3.trans (hb4.mono (by omega))
                have b4 := bq.trans (hb34.mono (by omega))
                have B4 := B1.trans (b4.mono hs)
                clear y0 y1 y2 yl
                obtain ⟨y0, y1, y2, yl⟩ := ZK.out w4 hb34
                have o4 := (b4.cell (p := ⟨bo, offo + ix, none⟩) hbol).trans o0
                have hbo4 : bo < w4.heap.size := by have := b4.size; omega
                clear o0
                go_wp2
                go_quiet (fail)
                go_wp2_with fail
                refine (HWI.out _ (below_drewN b4 _)).mono ?_
                rintro e w5 ⟨v5, rfl, hown5, hb5⟩
                change Below w4.heap.size _ _ at hb5
                change OwnRep 1 (flat intEnc) 3 w4.heap.size _ _ _ at hown5
                have hs5 : w4.heap.size ≤ w5.heap.size := hb5.size
                have hs4 := b4.size
                have b5 := (below_drewN b4 _).trans (hb5.mono hs4)
                obtain ⟨A5, c5, rfl, -⟩ := id (hown5.toSl inS)
                rw [List.length_set] at hown5
                have h5 := hown5.toSl inS
                have HS5 := Lib.hid (HHX.out _ _ h5 b5)
                clear h5
                go_wp2_with fail
                refine HS5.out.mono ?_
                rintro e w6 ⟨rfl, hb6⟩
                have hown6 := (hown5.below inS hb6).base_le (show w.heap.size ≤ w4.heap.size by omega)
                have B6 := (B1.trans (b5.mono hs)).trans (hb6.mono (by omega))
                go_wp2
                go_roundw
                case rel => exact ⟨k + 1, _, _, by omega, by go_num, rfl, hown6, HRM, HE, B6⟩
                case measure => simp [intOf]; omega
          · have hn3 : (q != x.from_) = true := by simpa using h3
            have HE := Lib.hid (show failF ls bs at_ 0 plan = ((k : Int), 10) ∧ ¬ (failF ls bs at_ 0 plan).2 = 0 by
              have : applyE ls bs at1 x = 10 := by rw [HAE.out]; rw [if_pos h3]
              rw [HN.out.1, HD.out]; simp [failF, this])
            clear h3
            go_wp2_with fail
            refine HBX.out.mono ?_
            rintro e w3 ⟨rfl, hb3⟩
            simp only [World.size_alloc] at hb3
            have b3 := bq.trans (hb3.mono (by omega))
            obtain ⟨y0, y1, y2, yl⟩ := ZK.out w3 hb3
            go_wp2_with fail
            refine (HSX.out _ b3).mono ?_
            rintro e w4 ⟨rfl, hb4⟩
            have hb34 := hb3.trans (hb4.mono (by omega))
            have b4 := bq.trans (hb34.mono (by omega))
            have B4 := B1.trans (b4.mono hs)
            clear y0 y1 y2 yl
            obtain ⟨y0, y1, y2, yl⟩ := ZK.out w4 hb34
            have o4 := (b4.cell (p := ⟨bo, offo + ix, none⟩) hbol).trans o0
            have hbo4 : bo < w4.heap.size := by have := b4.size; omega
            clear o0
            go_wp2
            go_quiet (fail)
            go_wp2
            go_ret3
            exact ⟨below_drewN B4 _, by rw [if_neg HE.out.2, failV, HE.out.1]; rfl⟩
    · have HE := Lib.hid (show (failF ls bs at_ 0 plan).2 = 0 ∧ finalF bs at_ plan = at1 by
        rw [HN.out.1, HN.out.2, List.drop_of_length_le (by omega)]; simp [failF, finalF])
      go_wp2
      go_ret3
      exact ⟨B1, by rw [if_pos HE.out.1, HE.out.2]; exact ⟨_, rfl, hown⟩⟩
theorem backP_take {xs : List Carry} {m : Nat} {x : Carry} (h : xs[m]? = some x) : backP (xs.drop m) = backP (xs.drop (m + 1)) ++ [backC x] := by rw [drop_at h]; simp [backP]
set_option maxRecDepth 10000 in
set_option maxHeartbeats 2000000 in
theorem rReverse_c (xs : List Carry) (v : Value) (w : World) (B : Nat) (hB : B ≤ w.heap.size) (h : Carries w B xs v) (hn : xs.length ≤ 1000000) :
    Calls Try.prog 36 #[v] w fun e w' => ∃ v', e = .returned v' ∧ OwnRep 3 (flat Carry.enc) 57 w.heap.size w' (backP xs) v' ∧ Below w.heap.size w w' := by
  obtain ⟨A, c, rfl, hc1, hc2, _⟩ := id h
  go_enter Try.func36, Try.ntmps36
  go_wp2
  go_loopw [3, 4] (fun o i wr => ∃ (m : Nat) (vo : Value), m ≤ xs.length ∧ i = .int .i64 ((m : Int) - 1) ∧ vo = o ∧ OwnRep 3 (flat Carry.enc) 57 w.heap.size wr (backP (xs.drop m)) vo ∧ Below w.heap.size w wr) (fun _ i _ => (intOf i + 1).toNat)
  case atStart => exact ⟨xs.length, _, Nat.le_refl _, rfl, rfl, by rw [List.drop_length]; exact OwnRep.nil_, Below.refl _ _⟩
  case round =>
    obtain ⟨m, vo, hm, rfl, rfl, hown, hb⟩ := hrel
    have hs := hb.size
    rcases m with _ | m
    · rw [show (((0 : Nat) : Int) - 1) = -1 by omega]
      rw [List.drop_zero] at hown
      go_wp2
      go_ret
      exact ⟨_, rfl, hown, hb⟩
    · rw [show (((m + 1 : Nat) : Int) - 1) = (m : Int) by omega]
      obtain ⟨x, hx⟩ := get_at xs (show m < xs.length by omega)
      have HT := Lib.hid (backP_take hx)
      have hlb : (backP (xs.drop (m + 1))).length ≤ 1000000 := by rw [backP_len, List.length_drop]; omega
      obtain ⟨b, off, rfl, hbB, g0, g1, g2⟩ := Carries.at_ (h.below caS (hb.mono hB)) hx
      have hbw : b < wr.heap.size := by omega
      have hki : (m : Int) < (xs.length : Int) := by omega
      have hlto := hown.own_lt
      clear hx
      generalize backP (xs.drop (m + 1)) = acc at *
      have hba : Below wr.heap.size wr (wr.drew.alloc (carryC (backC x))) := (Below.refl _ _).drew.alloc (by simp) _
      have KEEP := Lib.hid (fun (w' : World) (hW : Below wr.heap.size wr w') => (⟨(hW.cell (p := ⟨b, off + m * 3, none⟩) hbw).trans g0, (hW.cell (p := ⟨b, off + m * 3 + 1, none⟩) hbw).trans g1, (hW.cell (p := ⟨b, off + m * 3 + 2, none⟩) hbw).trans g2⟩ : w'.cell? ⟨b, off + m * 3, none⟩ = some (.int .i64 x.box) ∧ w'.cell? ⟨b, off + m * 3 + 1, none⟩ = some (.int .i64 x.from_) ∧ w'.cell? ⟨b, off + m * 3 + 2, none⟩ = some (.int .i64 x.to_)))
      have kO := hown.below caS hba
      have kS := SlRep.one_new caS (t := 57) (x := backC x) (F := fun _ => False) (w := wr.drew) (cs := Carry.enc (backC x)) rfl rfl (fun b h => h.elim)
      have kF : ∀ b, (False ∨ b = wr.drew.heap.size) → b < (wr.drew.alloc (carryC (backC x))).heap.size ∧ vo.ownBlock ≠ some b := (fun b hb' => by
        rcases hb' with hb' | hb'
        · exact hb'.elim
        · subst hb'; exact ⟨by simp, fun he => by have := (hlto _ he).2; simp at this⟩)
      have kN : acc.length + [backC x].length ≤ 4294967296 := by simp; omega
      have kB : w.heap.size ≤ (wr.drew.alloc (carryC (backC x))).heap.size := by simp; omega
      have kG : ∀ (w6 : World), (wr.drew.alloc (carryC (backC x))).grownBy w6 vo.ownBlock → (w6.cell? ⟨b, off + m * 3, none⟩ = some (.int .i64 x.box) ∧ w6.cell? ⟨b, off + m * 3 + 1, none⟩ = some (.int .i64 x.from_) ∧ w6.cell? ⟨b, off + m * 3 + 2, none⟩ = some (.int .i64 x.to_)) ∧ Below w.heap.size w w6 := by
        intro w6 hg
        obtain ⟨k0, k1, k2⟩ := KEEP.out _ hba
        have hne : some b ≠ vo.ownBlock := fun he => by have := (hlto _ he.symm).1; omega
        exact ⟨⟨(cell_grown hg (by simp; omega) hne).trans k0, (cell_grown hg (by simp; omega) hne).trans k1, (cell_grown hg (by simp; omega) hne).trans k2⟩, (hb.trans (hba.mono hs)).grown hg (by simp; omega) (fun k hk => (hlto k hk).1)⟩
      clear hba
      go_wp2
      go_region_held3 (fun w' => w'.cell? ⟨b, off + m * 3, none⟩ = some (.int .i64 x.box) ∧ w'.cell? ⟨b, off + m * 3 + 1, none⟩ = some (.int .i64 x.from_) ∧ w'.cell? ⟨b, off + m * 3 + 2, none⟩ = some (.int .i64 x.to_)) (first | with_reducible exact KEEP.out _ (Below.refl _ _).drew | with_reducible exact KEEP.out _ ((Below.refl _ _).drew.alloc (by simp) _) | with_reducible exact hk6.1) (first
        | (refine step_append_rep rfl caS carryE_ _ (.tmp 12) (.tmp 29) rfl rfl kO rfl (ys := [backC x]) kS kF kN (by decide) kB ?_; intro v6 w6 hown6 hg6 hat6; have hk6 := kG w6 hg6))
      rw [← HT.out] at hown6
      go_wp2
      go_roundw
      case rel => exact ⟨m, _, by omega, rfl, rfl, hown6, hk6.2⟩
      case measure => simp [intOf]
end Go.Proofs.Ythabpkigflldmaa
