/- AidChosen returns true. -/
import Derived.Test.YtbmlnflacdockaaDoorRfG
import Derived.Test.YtbmlnflacdockaaDoorAwk
import Derived.Test.YtbmlnflacdockaaDoorLbC
import Derived.Test.YtbmlnflacdockaaDoorMpL
import Derived.Deep.RegionLaw
import Derived.Outline
namespace Go.Proofs.YtbmlnflacdockaaDoor
open Go.RowKit

abbrev chW (w : World) (v1 v2 v3 : Value) (u : Int) (s : ByteArray) : World := ((w.alloc (catC v1 v2 v3)).alloc (.cells #[.int .i64 u] 3)).alloc (.cells #[.string s] 9)
theorem chW_at {w W : World} {v1 v2 v3 : Value} {u : Int} {s : ByteArray} (hW : Below (w.heap.size + 3) (chW w v1 v2 v3 u s) W) : W.cell? ⟨w.heap.size, 0, none⟩ = some v1 ∧ W.cell? ⟨w.heap.size, 1, none⟩ = some v2 ∧ W.cell? ⟨w.heap.size, 2, none⟩ = some v3 ∧ W.cell? ⟨w.heap.size + 1, 0, none⟩ = some (.int .i64 u) ∧ W.cell? ⟨w.heap.size + 1 + 1, 0, none⟩ = some (.string s) ∧ w.heap.size + 1 + 1 < W.heap.size := by
  have h0 : (chW w v1 v2 v3 u s).heap[w.heap.size]? = some (catC v1 v2 v3) := by
    rw [Below.heap_alloc _ _ _ (by simp; omega), Below.heap_alloc _ _ _ (by simp)]
    exact heap_newT _ _
  have h1 : (chW w v1 v2 v3 u s).heap[w.heap.size + 1]? = some (.cells #[.int .i64 u] 3) := by
    rw [Below.heap_alloc _ _ _ (by simp)]
    exact heap_atL _ _ _ (by simp)
  have h2 : (chW w v1 v2 v3 u s).heap[w.heap.size + 1 + 1]? = some (.cells #[.string s] 9) := heap_atL _ _ _ (by simp)
  have k0 := (hW.block _ (by omega)).trans h0
  have k1 := (hW.block _ (by omega)).trans h1
  have k2 := (hW.block _ (by omega)).trans h2
  exact ⟨by rw [Lib.cell_of_heap k0]; rfl, by rw [Lib.cell_of_heap k0]; rfl, by rw [Lib.cell_of_heap k0]; rfl, by rw [Lib.cell_of_heap k1]; rfl, by rw [Lib.cell_of_heap k2]; rfl, heap_ltT k2⟩
theorem fct_at {w W : World} {y : Fact} (hW : Below (w.heap.size + 1) (w.alloc (.cells #[.int .i64 y.el, .string y.lang, .string y.text] 56)) W) : W.cell? ⟨w.heap.size, 0, none⟩ = some (.int .i64 y.el) ∧ W.cell? ⟨w.heap.size, 1, none⟩ = some (.string y.lang) ∧ W.cell? ⟨w.heap.size, 2, none⟩ = some (.string y.text) ∧ w.heap.size < W.heap.size := by
  have k0 := (hW.block _ (by omega)).trans (heap_newT w (.cells #[.int .i64 y.el, .string y.lang, .string y.text] 56))
  exact ⟨by rw [Lib.cell_of_heap k0]; rfl, by rw [Lib.cell_of_heap k0]; rfl, by rw [Lib.cell_of_heap k0]; rfl, heap_ltT k0⟩
set_option maxRecDepth 100000 in
set_option maxHeartbeats 8000000 in
theorem chosen_law (c : Cat) (u : Int) (s : ByteArray) (v1 v2 v3 : Value) (w : World) (B : Nat) (hB : B ≤ w.heap.size) (h : CatRep w B c v1 v2 v3) 
(hS : SynOk w) :
    Calls Tryd.prog 6 #[.agg #[v1, v2, v3], .int .i64 u, .string s] w fun e w' => e = .returned (.bool true) ∧ Below w.heap.size w w' := by
  have HA := Lib.hid (fun (W : World) (hW : Below w.heap.size w W) => awake_c W (hS.below hS.1 hW))
  have b1 : Below w.heap.size w (chW w v1 v2 v3 u s) := (((Below.refl _ _).alloc (Nat.le_refl _) _).alloc (by simp) _).alloc (by simp; omega) _
  have hb0 : Below (w.heap.size + 3) (chW w v1 v2 v3 u s) (chW w v1 v2 v3 u s) := Below.refl _ _
  have KC := Lib.hid (fun (W : World) (hW : Below (w.heap.size + 3) (chW w v1 v2 v3 u s) W) => (chW_at hW))
  have HFW := Lib.hid (fun (W : World) (hW : Below w.heap.size w W) => few_c c v1 v2 v3 W B (Nat.le_trans hB hW.size) (h.below (hW.mono hB)))
  have HCP := Lib.hid (fun (hF : FewOk c) (W : World) (hW : Below w.heap.size w W) => rcopy_c c v1 v2 v3 W B (Nat.le_trans hB hW.size) (h.below (hW.mono hB)) hF)
  obtain ⟨A1, c1, rfl, ha1, ha2, _⟩ := id h.langs
  obtain ⟨A2, c2, rfl, hb1, hb2, _⟩ := id h.labels
  obtain ⟨A3, c3, rfl, hd1, hd2, _⟩ := id h.sheets
  by_cases h10 : s.size ≤ 10
  · have d2 : decide ((10 : Int) < (s.size : Int)) = false := decide_eq_false (by omega)
    go_enter Tryd.func6, Tryd.ntmps6
    go_wp2_with fail
    refine (HA.out _ b1).mono ?_
    rintro e w1 ⟨rfl, hb1⟩
    have hbX := bnd_call hb0 (by simp) hb1
    obtain ⟨z0, z1, z2, z3, z4, zl⟩ := KC.out _ hbX
    go_wp2_with fail
    refine (HFW.out _ (b1.trans (hbX.mono (by omega)))).mono ?_
    rintro e w2 ⟨⟨b, rfl, hF⟩, hb2⟩
    have hbX := bnd_call hbX (by simp) hb2
    clear hb1 hb2 z0 z1 z2 z3 z4 zl
    obtain ⟨z0, z1, z2, z3, z4, zl⟩ := KC.out _ hbX
    cases b
    · go_wp2
      go_ret
      exact ⟨rfl, b1.trans (hbX.mono (by omega))⟩
    · have hF := hF rfl
      have HCC := Lib.hid (HCP.out hF)
      have HCH := Lib.hid (fun (y1 y2 y3 : Value) (W : World) (hc : CatRep W W.heap.size c y1 y2 y3) => Choose_c c u s y1 y2 y3 W W.heap.size (Nat.le_refl _) hc)
      clear hF
      go_wp2
      have hbX := hbX.drew
      go_region_held3 (fun W => W.cell? ⟨w.heap.size, 0, none⟩ = some (.slice A1 c.langs.length c1) ∧ W.cell? ⟨w.heap.size, 1, none⟩ = some (.slice A2 c.labels.length c2) ∧ W.cell? ⟨w.heap.size, 2, none⟩ = some (.slice A3 c.sheets.length c3) ∧ W.cell? ⟨w.heap.size + 1, 0, none⟩ = some (.int .i64 u) ∧ W.cell? ⟨w.heap.size + 1 + 1, 0, none⟩ = some (.string s) ∧ w.heap.size + 1 + 1 < W.heap.size) (with_reducible exact KC.out _ hbX) (first
        | (go_at_call 14; (with_reducible refine (HCC.out _ (b1.trans (hbX.mono (Nat.le_add_right _ _)))).mono ?_); rintro e wC ⟨y1, y2, y3, rfl, hcC, -, hbC⟩; have hbX := bnd_call hbX (by simp) hbC)
        | (go_at_call 19; (with_reducible refine (HCH.out _ _ _ _ hcC).mono ?_); rintro e wQ ⟨vq, rfl, hownQ, hbQ⟩; have hbX := bnd_call hbX (by simp) hbQ))
      have HL := Lib.hid (hownQ.toSl fctS)
      have hbL : Below wQ.heap.size wQ wQ := Below.refl _ _
      have HIX := Lib.hid (fun (W : World) (hW : Below (w.heap.size + 3) (chW w (.slice A1 c.langs.length c1) (.slice A2 c.labels.length c2) (.slice A3 c.sheets.length c3) u s) W) => indexSc_c (.pointer (some ⟨w.heap.size + 1, 0, none⟩)) (fun x => decide (x.unit = u)) c.sheets (.slice A3 c.sheets.length c3) W B (by have := hW.size; simp at this; omega) (h.sheets.below shtS ((b1.trans (hW.mono (by omega))).mono hB))
        (fun x vf W' hW' hvf => chosen1_c u (w.heap.size + 1) x vf hvf W' ((chW_at (hW.trans (hW'.mono (by have := hW.size; simp at this; omega)))).2.2.2.1) (by have := hW.size; have := hW'.size; simp at *; omega)))
      have hRep := h
      clear h HFW HCP ha1 ha2 hb1 hb2 hd1 hd2
      obtain ⟨z0, z1, z2, z3, z4, zl⟩ := KC.out _ hbX
      go_wp2_with fail
      refine (HIX.out _ hbX).mono ?_
      rintro e wI ⟨rfl, hbI⟩
      have hbX := bnd_call hbX (by simp) hbI
      have hbL := hbL.trans hbI
      clear z0 z1 z2 z3 z4 zl
      obtain ⟨z0, z1, z2, z3, z4, zl⟩ := KC.out _ hbX
      rw [show idxF (fun x => decide (x.unit = u)) c.sheets = shtIx c.sheets u from rfl]
      go_wp2_with fail
      refine (HCC.out _ (b1.trans (hbX.mono (by omega)))).mono ?_
      rintro e wC2 ⟨y1', y2', y3', rfl, hcC2, -, hbC2⟩
      have hbX := bnd_call hbX (by simp) hbC2
      have hbL := bnd_call hbL (Nat.le_refl _) hbC2
      go_wp2_with fail
      refine (Check_c c y1' y2' y3' wC2 wC2.heap.size (Nat.le_refl _) hcC2).mono ?_
      rintro e wK ⟨rfl, hbK⟩
      have hbX := bnd_call hbX (by simp) hbK
      have hbL := bnd_call hbL (Nat.le_refl _) hbK
      clear z0 z1 z2 z3 z4 zl
      obtain ⟨z0, z1, z2, z3, z4, zl⟩ := KC.out _ hbX
      obtain ⟨AQ, cQ, rfl, -⟩ := id HL.out
      by_cases hE : catE c = 0
      · rw [hE]
        go_wp2_with fail
        refine (scontains_c s c.langs (.slice A1 c.langs.length c1) _ (fun b => b < B) (fun b hb => by have := hbX.size; simp at this; omega) (hRep.langs.below strS ((b1.trans (hbX.mono (by omega))).mono hB))).mono ?_
        rintro e wS ⟨rfl, rfl⟩
        rw [show (c.langs.any fun x => decide (x = s)) = hasS c.langs s from rfl]
        cases hcs : hasS c.langs s
        · have HE : (chooseR c u s).length = 0 := by unfold chooseR rightB; rw [if_pos (.inl (by simp [hcs]))]; rfl
          rw [HE]
          clear HE hcs hE
          go_wp2
          go_ret
          exact ⟨rfl, b1.trans (hbX.mono (by omega))⟩
        · rcases idxF_cases (fun x : Sheet => decide (x.unit = u)) c.sheets with ⟨h1, -⟩ | ⟨k, x, h1, h2, -, -⟩
          · have hi : shtIx c.sheets u = -1 := h1
            have HE : (chooseR c u s).length = 0 := by unfold chooseR; rw [if_pos (.inr (by rw [hi]; decide))]; rfl
            rw [HE, hi]
            clear HE hcs hE hi h1
            go_wp2
            go_ret
            exact ⟨rfl, b1.trans (hbX.mono (by omega))⟩
          · have hi : shtIx c.sheets u = (k : Int) := h1
            have HP := Lib.hid (chosen_ok hE (hasS_iff.1 hcs) hi h2)
            have hkl := lt_of_at h2
            obtain ⟨b, off, vf, rfl, hbB, g0, g1, g2, g3, g4, g5, hvf⟩ := Sheets.at_ (hRep.sheets.below shtS ((b1.trans (hbX.mono (by omega))).mono hB)) h2
            obtain ⟨AF, cF, rfl, hF1, hF2, _⟩ := id hvf
            have hbw : b < wK.heap.size := by have : b < B := hbB; have := hbX.size; simp at this; omega
            rw [hi]
            clear hi h1 h2 hcs hE g0 g1 g2 g3 g4
            have hmm := @run_makeMap Tryd.prog
            go_wp2
            clear hmm
            have hM0 : MapF (wK.alloc (.map #[] 0)) wK.heap.size (fun n : Int => Value.int .i64 n) Value.bool (elF (elsG Fact.el none (x.facts.take 0))) := MapF.new wK _ _ rfl
            go_loopw [64] (fun v64 wr => ∃ j : Nat, j ≤ x.facts.length ∧ v64 = .int .i64 j ∧ Hid (MapF wr wK.heap.size (fun n : Int => Value.int .i64 n) Value.bool (elF (elsG Fact.el none (x.facts.take j)))) ∧ Below wK.heap.size wK wr) (fun v64 _ => x.facts.length - (intOf v64).toNat)
            case atStart => exact ⟨0, Nat.zero_le _, rfl, Lib.hid hM0, (Below.refl _ _).alloc (Nat.le_refl _) _⟩
            case round =>
              clear hM0
              obtain ⟨j, hj, rfl, hM, hbM⟩ := hrel
              by_cases hlt : j < x.facts.length
              · obtain ⟨y, hy⟩ := get_at x.facts hlt
                have HY := Lib.hid (HP.out.step hy)
                have hbN := bnd_call hbX (by simp) hbM
                obtain ⟨b', off', rfl, hbB', q0, q1, q2⟩ := Facts.at_ (hvf.below fctS (hbM.mono (by have := hbX.size; simp at this; omega))) hy
                have hbw' : b' < wr.heap.size := by have : b' < B := hbB'; have := hbN.size; simp at this; omega
                clear hy
                go_wp2_with (at_mapUpdate; refine stop_intro ?_)
                refine stop_elim ?_
                have bA := hbM.alloc hbM.size (.cells #[.int .i64 y.el, .string y.lang, .string y.text] 56)
                refine wpList_mapPut rfl (.tmp 68) (.tmp 70) (.const (.bool true)) 45 (.inl rfl) (int_kind Tryd.underlying3) Tryd.underlying45 (hM.out.frame (Below.heap_alloc _ _ _ hM.out.lt)) rfl y.el rfl true rfl ?_
                intro w3 hm3 hg3
                have hm4 : MapF w3 wK.heap.size (fun n : Int => Value.int .i64 n) Value.bool (elF (elsG Fact.el none (x.facts.take (j + 1)))) := by
                  rw [← HY.out, ← elF_add]
                  exact hm3
                have HM4 := Lib.hid hm4
                have hb3 := bA.grown hg3 (by have := hbM.size; simp; omega) (fun k hk => by injection hk; omega)
                clear hm3 hm4
                go_wp2
                go_roundw
                case rel => exact ⟨j + 1, by omega, by go_num, HM4, hb3⟩
                case measure => simp [intOf]; omega
              · have hN := hM.out
                rw [List.take_of_length_le (by omega)] at hN
                have HN := Lib.hid hN
                clear hM hN
                go_wp2_with (at_len; refine wpList_maplen rfl (.tmp 74) 45 rfl Tryd.underlying45 HN.out rfl HP.out.nodup (elF_iff _) ?_; rw [HP.out.length])
                obtain ⟨wm, hwm⟩ : ∃ wm : World, wm = wr := ⟨_, rfl⟩
                subst hwm
                have hbM1 := bnd_call hbX (by simp) hbM
                have HLm := Lib.hid (HL.out.below fctS (hbL.trans (hbM.mono hbL.size)))
                have hqm : wQ.heap.size ≤ wm.heap.size := Nat.le_trans hbL.size hbM.size
                have HFm := Lib.hid (hvf.below fctS (hbM.mono (by have := hbX.size; simp at this; omega)))
                have hBm : B ≤ wm.heap.size := by have := hbM1.size; simp at this; omega
                have HRK := Lib.hid (fun (t : ByteArray) (W : World) (hW : Below wm.heap.size wm W) => chosen2_c c.langs s t (.slice A1 c.langs.length c1) (w.heap.size + 1 + 1) w.heap.size W B (Nat.le_trans hBm hW.size) ((hRep.langs.below strS ((b1.trans (hbM1.mono (by omega))).mono hB)).below strS (hW.mono hBm)) (chW_at (hbM1.trans (hW.mono (by have := hbM1.size; simp at this; omega)))).2.2.2.2.1 (chW_at (hbM1.trans (hW.mono (by have := hbM1.size; simp at this; omega)))).1)
                have HFC := Lib.hid (fun (y : Fact) (W : World) (hW : Below wm.heap.size wm W) => fcontains_c y x.facts (.slice AF x.facts.length cF) W (fun b => b < B) (fun b hb => by have := hW.size; omega) (HFm.out.below fctS (hW.mono hBm)))
                have b1m := b1.trans (hbM1.mono (by omega))
                go_loopw [80] (fun v80 wr => ∃ i : Nat, i ≤ (chooseR c u s).length ∧ v80 = .int .i64 i ∧ Below wm.heap.size wm wr) (fun v80 _ => (chooseR c u s).length - (intOf v80).toNat)
                case atStart => exact ⟨0, Nat.zero_le _, rfl, Below.refl _ _⟩
                case round =>
                  obtain ⟨i, hi, rfl, hbO⟩ := hrel
                  have hlim : (chooseR c u s).length ≤ 9223372036854775807 := Nat.le_trans HLm.out.len_.2.1 HLm.out.len_.2.2
                  by_cases hli : i < (chooseR c u s).length
                  · obtain ⟨y, hy⟩ := get_at _ hli
                    have HM := Lib.hid (HP.out.mem y (List.mem_of_getElem? hy))
                    have HR := Lib.hid (HP.out.rank y (List.mem_of_getElem? hy))
                    obtain ⟨bq, offq, rfl, hbq, q0, q1, q2⟩ := Facts.at_ (HLm.out.below fctS (hbO.mono hqm)) hy
                    have hbqw : bq < wr.heap.size := by have : bq < wQ.heap.size := hbq; have := hbO.size; omega
                    have HFY := Lib.hid (fun (W : World) (hW : Below wm.heap.size wm W) => (by
                      have h1 := HFC.out y W hW
                      rwa [show (x.facts.any fun z => eqFact y z) = true from List.any_eq_true.2 ⟨y, HM.out, eqFact_iff.2 rfl⟩] at h1 : Calls Tryd.prog 26 #[.slice AF x.facts.length cF, .agg #[.int .i64 y.el, .string y.lang, .string y.text]] W fun e w' => e = .returned (.bool true) ∧ Below W.heap.size W w'))
                    have HL2 := Lib.hid (HLm.out.below fctS (hbO.mono hqm))
                    have hbF := (Below.refl wr.heap.size wr).alloc (Nat.le_refl _) (.cells #[.int .i64 y.el, .string y.lang, .string y.text] 56)
                    have KF := Lib.hid (fun (W : World) (hW : Below (wr.heap.size + 1) (wr.alloc (.cells #[.int .i64 y.el, .string y.lang, .string y.text] 56)) W) => fct_at hW)
                    have HY := Lib.hid hy
                    clear hy
                    go_upto_region 22 with fail
                    clear q0 q1 q2
                    go_cut [103] (fun p W => p = .bool false ∧ Below (wr.heap.size + 1) (wr.alloc (.cells #[.int .i64 y.el, .string y.lang, .string y.text] 56)) W)
                    case first =>
                      have hbY := (Below.refl (wr.heap.size + 1) (wr.alloc (.cells #[.int .i64 y.el, .string y.lang, .string y.text] 56))).drew
                      rcases i with _ | i'
                      · rw [show ((0 : Nat) : Int) = 0 from rfl]
                        refine wp_region_held_drew (S := (fun W => W.cell? ⟨wr.heap.size, 0, none⟩ = some (.int .i64 y.el) ∧ W.cell? ⟨wr.heap.size, 1, none⟩ = some (.string y.lang) ∧ W.cell? ⟨wr.heap.size, 2, none⟩ = some (.string y.text) ∧ wr.heap.size < W.heap.size)) (by kernel_rfl) (by with_reducible exact KF.out _ hbY) (fun hHeld => ?_)
                        refine wpAnyH_take (i := 0) (oi := ⟨some 85, _, _, _, _, _⟩) (v := ?_) rfl (by kernel_rfl) (by kernel_rfl) (by kernel_rfl) (fun _ _ _ h => h) (Or.inl ⟨by kernel_rfl, ?_⟩) (by assumption) ?_
                        rotate_left
                        · (intro w hSw; (try dsimp only at hSw); go_simp; try with_reducible rfl)
                        try simp only [Act.put, List.setIfInBounds_toArray, List.set_cons_zero, List.set_cons_succ]
                        refine wpAnyH_take (i := 1) (oi := ⟨some 86, _, _, _, _, _⟩) (v := ?_) rfl (by kernel_rfl) (by kernel_rfl) (by kernel_rfl) (fun _ _ _ h => h) (Or.inl ⟨by kernel_rfl, ?_⟩) (by assumption) ?_
                        rotate_left
                        · (intro w hSw; (try dsimp only at hSw); go_simp; try with_reducible rfl)
                        try simp only [Act.put, List.setIfInBounds_toArray, List.set_cons_zero, List.set_cons_succ]
                        refine wpAnyH_take (i := 2) (oi := ⟨some 87, _, _, _, _, _⟩) (v := ?_) rfl (by kernel_rfl) (by kernel_rfl) (by kernel_rfl) (fun _ _ _ h => h) (Or.inl ⟨by kernel_rfl, ?_⟩) (by assumption) ?_
                        rotate_left
                        · (intro w hSw; (try dsimp only at hSw); go_simp; try with_reducible rfl)
                        try simp only [Act.put, List.setIfInBounds_toArray, List.set_cons_zero, List.set_cons_succ]
                        refine wpAnyH_take (i := 3) (oi := ⟨some 88, _, _, _, _, _⟩) (v := undef) rfl (by kernel_rfl) (by kernel_rfl) (by kernel_rfl) (fun _ _ _ h => h) (Or.inr ⟨by kernel_rfl, rfl⟩) (by assumption) ?_
                        try simp only [Act.put, List.setIfInBounds_toArray, List.set_cons_zero, List.set_cons_succ]
                        refine wpAnyH_take (i := 4) (oi := ⟨some 89, _, _, _, _, _⟩) (v := undef) rfl (by kernel_rfl) (by kernel_rfl) (by kernel_rfl) (fun _ _ _ h => h) (Or.inr ⟨by kernel_rfl, rfl⟩) (by assumption) ?_
                        try simp only [Act.put, List.setIfInBounds_toArray, List.set_cons_zero, List.set_cons_succ]
                        refine wpAnyH_take (i := 5) (oi := ⟨some 90, _, _, _, _, _⟩) (v := undef) rfl (by kernel_rfl) (by kernel_rfl) (by kernel_rfl) (fun _ _ _ h => h) (Or.inr ⟨by kernel_rfl, rfl⟩) (by assumption) ?_
                        try simp only [Act.put, List.setIfInBounds_toArray, List.set_cons_zero, List.set_cons_succ]
                        refine wpAnyH_take (i := 6) (oi := ⟨some 91, _, _, _, _, _⟩) (v := undef) rfl (by kernel_rfl) (by kernel_rfl) (by kernel_rfl) (fun _ _ _ h => h) (Or.inr ⟨by kernel_rfl, rfl⟩) (by assumption) ?_
                        try simp only [Act.put, List.setIfInBounds_toArray, List.set_cons_zero, List.set_cons_succ]
                        refine wpAnyH_take (i := 7) (oi := ⟨some 92, _, _, _, _, _⟩) (v := undef) rfl (by kernel_rfl) (by kernel_rfl) (by kernel_rfl) (fun _ _ _ h => h) (Or.inr ⟨by kernel_rfl, rfl⟩) (by assumption) ?_
                        try simp only [Act.put, List.setIfInBounds_toArray, List.set_cons_zero, List.set_cons_succ]
                        refine wpAnyH_take (i := 8) (oi := ⟨some 93, _, _, _, _, _⟩) (v := undef) rfl (by kernel_rfl) (by kernel_rfl) (by kernel_rfl) (fun _ _ _ h => h) (Or.inr ⟨by kernel_rfl, rfl⟩) (by assumption) ?_
                        try simp only [Act.put, List.setIfInBounds_toArray, List.set_cons_zero, List.set_cons_succ]
                        refine wpAnyH_take (i := 9) (oi := ⟨some 94, _, _, _, _, _⟩) (v := undef) rfl (by kernel_rfl) (by kernel_rfl) (by kernel_rfl) (fun _ _ _ h => h) (Or.inr ⟨by kernel_rfl, rfl⟩) (by assumption) ?_
                        try simp only [Act.put, List.setIfInBounds_toArray, List.set_cons_zero, List.set_cons_succ]
                        refine wpAnyH_take (i := 10) (oi := ⟨some 95, _, _, _, _, _⟩) (v := undef) rfl (by kernel_rfl) (by kernel_rfl) (by kernel_rfl) (fun _ _ _ h => h) (Or.inr ⟨by kernel_rfl, rfl⟩) (by assumption) ?_
                        try simp only [Act.put, List.setIfInBounds_toArray, List.set_cons_zero, List.set_cons_succ]
                        refine wpAnyH_take (i := 11) (oi := ⟨some 96, _, _, _, _, _⟩) (v := undef) rfl (by kernel_rfl) (by kernel_rfl) (by kernel_rfl) (fun _ _ _ h => h) (Or.inr ⟨by kernel_rfl, rfl⟩) (by assumption) ?_
                        try simp only [Act.put, List.setIfInBounds_toArray, List.set_cons_zero, List.set_cons_succ]
                        refine wpAnyH_take (i := 12) (oi := ⟨some 97, _, _, _, _, _⟩) (v := ?_) rfl (by kernel_rfl) (by kernel_rfl) (by kernel_rfl) (fun _ _ _ h => h) (Or.inl ⟨by kernel_rfl, ?_⟩) (by assumption) ?_
                        rotate_left
                        · (intro w hSw; (try dsimp only at hSw); go_simp; try with_reducible rfl)
                        try simp only [Act.put, List.setIfInBounds_toArray, List.set_cons_zero, List.set_cons_succ]
                        refine wpAnyH_take (i := 13) (oi := ⟨some 98, _, _, _, _, _⟩) (v := ?_) rfl (by kernel_rfl) (by kernel_rfl) (by kernel_rfl) (fun _ _ _ h => h) (Or.inl ⟨by kernel_rfl, ?_⟩) (by assumption) ?_
                        rotate_left
                        · (intro w hSw; (try dsimp only at hSw); go_simp; try with_reducible rfl)
                        try simp only [Act.put, List.setIfInBounds_toArray, List.set_cons_zero, List.set_cons_succ]
                        refine wpAnyH_take (i := 14) (oi := ⟨some 99, _, _, _, _, _⟩) (v := ?_) rfl (by kernel_rfl) (by kernel_rfl) (by kernel_rfl) (fun _ _ _ h => h) (Or.inl ⟨by kernel_rfl, ?_⟩) (by assumption) ?_
                        rotate_left
                        · (intro w hSw; (try dsimp only at hSw); go_simp; try with_reducible rfl)
                        try simp only [Act.put, List.setIfInBounds_toArray, List.set_cons_zero, List.set_cons_succ]
                        refine wpAnyH_take (i := 15) (oi := ⟨some 100, _, _, _, _, _⟩) (v := ?_) rfl (by kernel_rfl) (by kernel_rfl) (by kernel_rfl) (fun _ _ _ h => h) (Or.inl ⟨by kernel_rfl, ?_⟩) (by assumption) ?_
                        rotate_left
                        · (intro w hSw; (try dsimp only at hSw); go_simp; try with_reducible rfl)
                        try simp only [Act.put, List.setIfInBounds_toArray, List.set_cons_zero, List.set_cons_succ]
                        refine wpAnyH_ready (rs := [16]) (by kernel_rfl) (by simp) ?_
                        refine AllReadyH.cons (o := ⟨some 101, _, _, _, _, _⟩) rfl (fun K hK => ?_) AllReadyH.nil
                        go_simp
                        (go_at_call 26; (with_reducible refine (HFY.out _ (hbO.trans ((hbF.trans (hbY.mono (Nat.le_succ _))).mono hbO.size))).mono ?_); rintro e wV ⟨rfl, hbV⟩; have hbY := bnd_call hbY (by simp) hbV)
                        go_wp2_with fail
                        refine hK.out _ _ (by with_reducible exact KF.out _ hbY) (fun hHeld => ?_)
                        clear hK K
                        try simp only [Act.put, List.setIfInBounds_toArray, List.set_cons_zero, List.set_cons_succ]
                        refine wpAnyH_take (i := 17) (oi := ⟨some 102, _, _, _, _, _⟩) (v := ?_) rfl (by kernel_rfl) (by kernel_rfl) (by kernel_rfl) (fun _ _ _ h => h) (Or.inl ⟨by kernel_rfl, ?_⟩) (by assumption) ?_
                        rotate_left
                        · (intro w hSw; (try dsimp only at hSw); go_simp; try with_reducible rfl)
                        try simp only [Act.put, List.setIfInBounds_toArray, List.set_cons_zero, List.set_cons_succ]
                        refine wpAnyH_take (i := 18) (oi := ⟨some 103, _, _, _, _, _⟩) (v := ?_) rfl (by kernel_rfl) (by kernel_rfl) (by kernel_rfl) (fun _ _ _ h => h) (Or.inl ⟨by kernel_rfl, ?_⟩) (by assumption) ?_
                        rotate_left
                        · (intro w hSw; (try dsimp only at hSw); go_simp; try with_reducible rfl)
                        try simp only [Act.put, List.setIfInBounds_toArray, List.set_cons_zero, List.set_cons_succ]
                        refine wpAnyH_done (by kernel_rfl) ?_ _
                        all_goals (go_wp2_with fail; go_meet)
                        all_goals exact ⟨rfl, hbY⟩
                      · obtain ⟨z, hz⟩ := get_at (chooseR c u s) (show i' < (chooseR c u s).length by omega)
                        have hge : decide (y.el ≤ z.el) = false := by
                          have h1 := HP.out.asc
                          rw [← HP.out.els] at h1
                          have h2 := List.pairwise_iff_getElem.1 h1 i' (i' + 1) (by simp; omega) (by simp; omega) (by omega)
                          obtain ⟨hz1, hz2⟩ := List.getElem?_eq_some_iff.1 hz
                          obtain ⟨hy1, hy2⟩ := List.getElem?_eq_some_iff.1 HY.out
                          simp only [List.getElem_map, hz2, hy2] at h2
                          exact decide_eq_false (by omega)
                        obtain ⟨_, _, e9, hbq9, q0, -⟩ := Facts.at_ HL2.out hz
                        cases e9
                        have KF2 := Lib.hid (fun (W : World) (hW : Below (wr.heap.size + 1) (wr.alloc (.cells #[.int .i64 y.el, .string y.lang, .string y.text] 56)) W) => (⟨(KF.out W hW).1, (KF.out W hW).2.1, (KF.out W hW).2.2.1, (KF.out W hW).2.2.2, ((hbF.trans (hW.mono (Nat.le_succ _))).cell (p := ⟨bq, offq + i' * 3, none⟩) hbqw).trans q0⟩ : W.cell? ⟨wr.heap.size, 0, none⟩ = some (.int .i64 y.el) ∧ W.cell? ⟨wr.heap.size, 1, none⟩ = some (.string y.lang) ∧ W.cell? ⟨wr.heap.size, 2, none⟩ = some (.string y.text) ∧ wr.heap.size < W.heap.size ∧ W.cell? ⟨bq, offq + i' * 3, none⟩ = some (.int .i64 z.el)))
                        clear q0 hz
                        have hi2 : (0 : Int) ≤ (i' : Int) := by omega
                        have hi3 : (i' : Int) < ((chooseR c u s).length : Int) := by omega
                        have hi4 : (0 : Int) < (i' : Int) + 1 := by omega
                        have hw0 : IntKind.i64.wrap ((i' : Int) + 1 - 1) = (i' : Int) := by rw [Int.add_sub_cancel]; exact IntWalk.i64_in _ (by omega)
                        have hw1 : IntKind.i64.wrap (i' : Int) = (i' : Int) := IntWalk.i64_in _ (by omega)
                        rw [show ((i' + 1 : Nat) : Int) = (i' : Int) + 1 from rfl]
                        go_region_held3 (fun W => W.cell? ⟨wr.heap.size, 0, none⟩ = some (.int .i64 y.el) ∧ W.cell? ⟨wr.heap.size, 1, none⟩ = some (.string y.lang) ∧ W.cell? ⟨wr.heap.size, 2, none⟩ = some (.string y.text) ∧ wr.heap.size < W.heap.size ∧ W.cell? ⟨bq, offq + i' * 3, none⟩ = some (.int .i64 z.el)) (with_reducible exact KF2.out _ hbY) (first
                          | (go_at_call 26; (with_reducible refine (HFY.out _ (hbO.trans ((hbF.trans (hbY.mono (Nat.le_succ _))).mono hbO.size))).mono ?_); rintro e wV ⟨rfl, hbV⟩; have hbY := bnd_call hbY (by simp) hbV))
                        all_goals (go_wp2_with fail; go_meet)
                        all_goals exact ⟨rfl, hbY⟩
                    case rest =>
                      obtain ⟨rfl, hbY⟩ := hcut
                      obtain ⟨wo, hwo⟩ : ∃ wo : World, wo = wr := ⟨_, rfl⟩
                      subst hwo
                      clear HFY HFC HL2
                      have HLI := Lib.hid (And.intro hli hlim)
                      go_wp2
                      go_loopw [106] (fun v106 wr => ∃ j : Nat, j ≤ x.facts.length ∧ v106 = .int .i64 j ∧ Below (wo.heap.size + 1) (wo.alloc (.cells #[.int .i64 y.el, .string y.lang, .string y.text] 56)) wr) (fun v106 _ => x.facts.length - (intOf v106).toNat)
                      case atStart => exact ⟨0, Nat.zero_le _, rfl, hbY⟩
                      case round =>
                        clear hbY
                        obtain ⟨j, hj, rfl, hbY⟩ := hrel
                        have hbO2 := hbO.trans ((hbF.trans (hbY.mono (Nat.le_succ _))).mono hbO.size)
                        by_cases hlj : j < x.facts.length
                        · obtain ⟨g, hg⟩ := get_at x.facts hlj
                          have HRk := Lib.hid (HR.out g (List.mem_of_getElem? hg))
                          obtain ⟨bg, offg, rfl, hbg, q0, q1, q2⟩ := Facts.at_ (HFm.out.below fctS (hbO2.mono hBm)) hg
                          have hbgw : bg < wr.heap.size := by have : bg < B := hbg; have := hbO2.size; omega
                          have hbG := (Below.refl wr.heap.size wr).alloc (Nat.le_refl _) (.cells #[.int .i64 g.el, .string g.lang, .string g.text] 56)
                          have KG := Lib.hid (fun (W : World) (hW : Below (wr.heap.size + 1) (wr.alloc (.cells #[.int .i64 g.el, .string g.lang, .string g.text] 56)) W) => (⟨(fct_at hW).1, (fct_at hW).2.1, (KF.out W (hbY.trans ((hbG.trans (hW.mono (Nat.le_succ _))).mono (by have := hbY.size; simpa using this)))).1, (KF.out W (hbY.trans ((hbG.trans (hW.mono (Nat.le_succ _))).mono (by have := hbY.size; simpa using this)))).2.1, (fct_at hW).2.2.2⟩ : W.cell? ⟨wr.heap.size, 0, none⟩ = some (.int .i64 g.el) ∧ W.cell? ⟨wr.heap.size, 1, none⟩ = some (.string g.lang) ∧ W.cell? ⟨wo.heap.size, 0, none⟩ = some (.int .i64 y.el) ∧ W.cell? ⟨wo.heap.size, 1, none⟩ = some (.string y.lang) ∧ wr.heap.size < W.heap.size))
                          clear hg
                          go_upto_region 27 with fail
                          have hbZ := (Below.refl (wr.heap.size + 1) (wr.alloc (.cells #[.int .i64 g.el, .string g.lang, .string g.text] 56))).drew
                          by_cases he : g.el = y.el
                          · have he2 : (g.el == y.el) = true := by simp [he]
                            have hlt2 : decide (rkF c.langs s g.lang < rkF c.langs s y.lang) = false := decide_eq_false (by have := HRk.out he; omega)
                            clear he
                            go_region_held3 (fun W => W.cell? ⟨wr.heap.size, 0, none⟩ = some (.int .i64 g.el) ∧ W.cell? ⟨wr.heap.size, 1, none⟩ = some (.string g.lang) ∧ W.cell? ⟨wo.heap.size, 0, none⟩ = some (.int .i64 y.el) ∧ W.cell? ⟨wo.heap.size, 1, none⟩ = some (.string y.lang) ∧ wr.heap.size < W.heap.size) (with_reducible exact KG.out _ hbZ) (first
                              | (go_at_call 24; (with_reducible refine (HRK.out _ _ (hbO2.trans ((hbG.trans (hbZ.mono (Nat.le_succ _))).mono hbO2.size))).mono ?_); rintro e wV ⟨rfl, hbV⟩; have hbZ := bnd_call hbZ (by simp) hbV))
                            all_goals (go_wp2; go_roundw)
                            all_goals first
                              | exact ⟨j + 1, by omega, by go_num, hbY.trans ((hbG.trans (hbZ.mono (Nat.le_succ _))).mono (by have := hbY.size; simpa using this))⟩
                              | (simp [intOf]; omega)
                          · have he2 : (g.el == y.el) = false := by simpa using he
                            clear he
                            refine wp_region_held_drew (S := (fun W => W.cell? ⟨wr.heap.size, 0, none⟩ = some (.int .i64 g.el) ∧ W.cell? ⟨wr.heap.size, 1, none⟩ = some (.string g.lang) ∧ W.cell? ⟨wo.heap.size, 0, none⟩ = some (.int .i64 y.el) ∧ W.cell? ⟨wo.heap.size, 1, none⟩ = some (.string y.lang) ∧ wr.heap.size < W.heap.size)) (by kernel_rfl) (by with_reducible exact KG.out _ hbZ) (fun hHeld => ?_)
                            refine wpAnyH_take (i := 0) (oi := ⟨some 110, _, _, _, _, _⟩) (v := ?_) rfl (by kernel_rfl) (by kernel_rfl) (by kernel_rfl) (fun _ _ _ h => h) (Or.inl ⟨by kernel_rfl, ?_⟩) (by assumption) ?_
                            rotate_left
                            · (intro w hSw; (try dsimp only at hSw); go_simp; try with_reducible rfl)
                            try simp only [Act.put, List.setIfInBounds_toArray, List.set_cons_zero, List.set_cons_succ]
                            refine wpAnyH_take (i := 1) (oi := ⟨some 111, _, _, _, _, _⟩) (v := ?_) rfl (by kernel_rfl) (by kernel_rfl) (by kernel_rfl) (fun _ _ _ h => h) (Or.inl ⟨by kernel_rfl, ?_⟩) (by assumption) ?_
                            rotate_left
                            · (intro w hSw; (try dsimp only at hSw); go_simp; try with_reducible rfl)
                            try simp only [Act.put, List.setIfInBounds_toArray, List.set_cons_zero, List.set_cons_succ]
                            refine wpAnyH_take (i := 2) (oi := ⟨some 112, _, _, _, _, _⟩) (v := ?_) rfl (by kernel_rfl) (by kernel_rfl) (by kernel_rfl) (fun _ _ _ h => h) (Or.inl ⟨by kernel_rfl, ?_⟩) (by assumption) ?_
                            rotate_left
                            · (intro w hSw; (try dsimp only at hSw); go_simp; try with_reducible rfl)
                            try simp only [Act.put, List.setIfInBounds_toArray, List.set_cons_zero, List.set_cons_succ]
                            refine wpAnyH_take (i := 3) (oi := ⟨some 113, _, _, _, _, _⟩) (v := ?_) rfl (by kernel_rfl) (by kernel_rfl) (by kernel_rfl) (fun _ _ _ h => h) (Or.inl ⟨by kernel_rfl, ?_⟩) (by assumption) ?_
                            rotate_left
                            · (intro w hSw; (try dsimp only at hSw); go_simp; try with_reducible rfl)
                            try simp only [Act.put, List.setIfInBounds_toArray, List.set_cons_zero, List.set_cons_succ]
                            refine wpAnyH_take (i := 4) (oi := ⟨some 114, _, _, _, _, _⟩) (v := ?_) rfl (by kernel_rfl) (by kernel_rfl) (by kernel_rfl) (fun _ _ _ h => h) (Or.inl ⟨by kernel_rfl, ?_⟩) (by assumption) ?_
                            rotate_left
                            · (intro w hSw; (try dsimp only at hSw); go_simp; try with_reducible rfl)
                            try simp only [Act.put, List.setIfInBounds_toArray, List.set_cons_zero, List.set_cons_succ]
                            refine wpAnyH_take (i := 5) (oi := ⟨some 115, _, _, _, _, _⟩) (v := ?_) rfl (by kernel_rfl) (by kernel_rfl) (by kernel_rfl) (fun _ _ _ h => h) (Or.inl ⟨by kernel_rfl, ?_⟩) (by assumption) ?_
                            rotate_left
                            · (intro w hSw; (try dsimp only at hSw); go_simp; try with_reducible rfl)
                            try simp only [Act.put, List.setIfInBounds_toArray, List.set_cons_zero, List.set_cons_succ]
                            refine wpAnyH_take (i := 6) (oi := ⟨some 116, _, _, _, _, _⟩) (v := undef) rfl (by kernel_rfl) (by kernel_rfl) (by kernel_rfl) (fun _ _ _ h => h) (Or.inr ⟨by kernel_rfl, rfl⟩) (by assumption) ?_
                            try simp only [Act.put, List.setIfInBounds_toArray, List.set_cons_zero, List.set_cons_succ]
                            refine wpAnyH_take (i := 7) (oi := ⟨some 117, _, _, _, _, _⟩) (v := undef) rfl (by kernel_rfl) (by kernel_rfl) (by kernel_rfl) (fun _ _ _ h => h) (Or.inr ⟨by kernel_rfl, rfl⟩) (by assumption) ?_
                            try simp only [Act.put, List.setIfInBounds_toArray, List.set_cons_zero, List.set_cons_succ]
                            refine wpAnyH_take (i := 8) (oi := ⟨some 118, _, _, _, _, _⟩) (v := undef) rfl (by kernel_rfl) (by kernel_rfl) (by kernel_rfl) (fun _ _ _ h => h) (Or.inr ⟨by kernel_rfl, rfl⟩) (by assumption) ?_
                            try simp only [Act.put, List.setIfInBounds_toArray, List.set_cons_zero, List.set_cons_succ]
                            refine wpAnyH_take (i := 9) (oi := ⟨some 119, _, _, _, _, _⟩) (v := undef) rfl (by kernel_rfl) (by kernel_rfl) (by kernel_rfl) (fun _ _ _ h => h) (Or.inr ⟨by kernel_rfl, rfl⟩) (by assumption) ?_
                            try simp only [Act.put, List.setIfInBounds_toArray, List.set_cons_zero, List.set_cons_succ]
                            refine wpAnyH_take (i := 10) (oi := ⟨some 120, _, _, _, _, _⟩) (v := undef) rfl (by kernel_rfl) (by kernel_rfl) (by kernel_rfl) (fun _ _ _ h => h) (Or.inr ⟨by kernel_rfl, rfl⟩) (by assumption) ?_
                            try simp only [Act.put, List.setIfInBounds_toArray, List.set_cons_zero, List.set_cons_succ]
                            refine wpAnyH_take (i := 11) (oi := ⟨some 121, _, _, _, _, _⟩) (v := undef) rfl (by kernel_rfl) (by kernel_rfl) (by kernel_rfl) (fun _ _ _ h => h) (Or.inr ⟨by kernel_rfl, rfl⟩) (by assumption) ?_
                            try simp only [Act.put, List.setIfInBounds_toArray, List.set_cons_zero, List.set_cons_succ]
                            refine wpAnyH_take (i := 12) (oi := ⟨some 122, _, _, _, _, _⟩) (v := undef) rfl (by kernel_rfl) (by kernel_rfl) (by kernel_rfl) (fun _ _ _ h => h) (Or.inr ⟨by kernel_rfl, rfl⟩) (by assumption) ?_
                            try simp only [Act.put, List.setIfInBounds_toArray, List.set_cons_zero, List.set_cons_succ]
                            refine wpAnyH_take (i := 13) (oi := ⟨some 123, _, _, _, _, _⟩) (v := undef) rfl (by kernel_rfl) (by kernel_rfl) (by kernel_rfl) (fun _ _ _ h => h) (Or.inr ⟨by kernel_rfl, rfl⟩) (by assumption) ?_
                            try simp only [Act.put, List.setIfInBounds_toArray, List.set_cons_zero, List.set_cons_succ]
                            refine wpAnyH_take (i := 14) (oi := ⟨some 124, _, _, _, _, _⟩) (v := undef) rfl (by kernel_rfl) (by kernel_rfl) (by kernel_rfl) (fun _ _ _ h => h) (Or.inr ⟨by kernel_rfl, rfl⟩) (by assumption) ?_
                            try simp only [Act.put, List.setIfInBounds_toArray, List.set_cons_zero, List.set_cons_succ]
                            refine wpAnyH_take (i := 15) (oi := ⟨some 125, _, _, _, _, _⟩) (v := ?_) rfl (by kernel_rfl) (by kernel_rfl) (by kernel_rfl) (fun _ _ _ h => h) (Or.inl ⟨by kernel_rfl, ?_⟩) (by assumption) ?_
                            rotate_left
                            · (intro w hSw; (try dsimp only at hSw); go_simp; try with_reducible rfl)
                            try simp only [Act.put, List.setIfInBounds_toArray, List.set_cons_zero, List.set_cons_succ]
                            refine wpAnyH_done (by kernel_rfl) ?_ _
                            go_wp2
                            go_roundw
                            case rel => exact ⟨j + 1, by omega, by go_num, hbY.trans ((hbG.trans (hbZ.mono (Nat.le_succ _))).mono (by have := hbY.size; simpa using this))⟩
                            case measure => simp [intOf]; omega
                        · go_wp2
                          go_roundw
                          case rel => exact ⟨i + 1, HLI.out.1, by have := HLI.out; go_num, hbO2⟩
                          case measure => have := HLI.out; simp [intOf]; omega
                  · go_wp2
                    go_ret
                    exact ⟨rfl, b1m.trans (hbO.mono b1m.size)⟩
      · obtain ⟨n1, n2⟩ := ne_bool hE
        have HE : (chooseR c u s).length = 0 := by unfold chooseR rightB; rw [if_pos (.inl (by simp [hE]))]; rfl
        rw [HE]
        clear hE HE
        go_wp2
        go_ret
        exact ⟨rfl, b1.trans (hbX.mono (by omega))⟩
  · have d2 : decide ((10 : Int) < (s.size : Int)) = true := decide_eq_true (by omega)
    go_enter Tryd.func6, Tryd.ntmps6
    go_wp2_with fail
    refine (HA.out _ b1).mono ?_
    rintro e w1 ⟨rfl, hb1⟩
    have hbX := bnd_call hb0 (by simp) hb1
    obtain ⟨z0, z1, z2, z3, z4, zl⟩ := KC.out _ hbX
    go_wp2_with fail
    refine (HFW.out _ (b1.trans (hbX.mono (by omega)))).mono ?_
    rintro e w2 ⟨⟨b, rfl, hF⟩, hb2⟩
    have hbX := bnd_call hbX (by simp) hb2
    clear hb1 hb2 z0 z1 z2 z3 z4 zl
    obtain ⟨z0, z1, z2, z3, z4, zl⟩ := KC.out _ hbX
    cases b
    all_goals
      go_wp2
      go_ret
      exact ⟨rfl, b1.trans (hbX.mono (by omega))⟩
end Go.Proofs.YtbmlnflacdockaaDoor
