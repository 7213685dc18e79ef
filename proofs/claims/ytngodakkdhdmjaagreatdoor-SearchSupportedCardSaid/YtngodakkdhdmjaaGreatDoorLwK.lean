/- SearchSupported returns true. -/
import Derived.Test.YtngodakkdhdmjaaGreatDoorPcq
namespace Go.Proofs.YtngodakkdhdmjaaGreatDoor
open Go.RowKit

set_option maxRecDepth 100000 in
set_option maxHeartbeats 8000000 in
theorem supported_a (c : Cat) (s : ByteArray) (c1 c2 c3 vq : Value) (w : World) (B : Nat) (hB : B ≤ w.heap.size) (h : CatRep w B c c1 c2 c3) (hV : VarOk w) (hsz : 10 < s.size) :
    Calls Tryz.prog 5 #[.agg #[c1, c2, c3], .string s, vq] w fun e w' => e = .returned (.bool true) ∧ Below w.heap.size w w' := by
  have b0 : Below w.heap.size w (w.alloc (catC c1 c2 c3)) := (Below.refl _ _).alloc (Nat.le_refl _) _
  have HA := Lib.hid (awake6_c (w.alloc (catC c1 c2 c3)) (hV.below b0))
  have HFW := Lib.hid (fun (v : Value) (W : World) (hv : SlRep 3 catR W (fun b => b < W.heap.size) [c] v) => few5_c [c] v W W.heap.size (Nat.le_refl _) hv)
  have hb0 : Below (w.heap.size + 1) (w.alloc (catC c1 c2 c3)) (w.alloc (catC c1 c2 c3)) := Below.refl _ _
  have KC := Lib.hid (fun (W : World) (hW : Below (w.heap.size + 1) (w.alloc (catC c1 c2 c3)) W) => catW_at hW)
  have HONE := Lib.hid (fun (W : World) (hW : Below w.heap.size w W) => cat_one hB h (W := W.alloc (catC c1 c2 c3)) (g := W.heap.size) (hW.alloc hW.size _) (heap_newS W _))
  have hl' : decide ((10 : Int) < (s.size : Int)) = true := decide_eq_true (by omega)
  obtain ⟨A1, ca1, rfl, -⟩ := id h.langs
  obtain ⟨A2, ca2, rfl, -⟩ := id h.labels
  obtain ⟨A3, ca3, rfl, -⟩ := id h.sheets
  clear hsz h hV
  go_enter Tryz.func5, Tryz.ntmps5
  go_wp2_with fail
  refine HA.out.mono ?_
  rintro e w1 ⟨rfl, b1⟩
  have bX := bnd_call hb0 (by simp) b1
  have bW := b0.trans (bX.mono (Nat.le_succ _))
  obtain ⟨z0, z1, z2, zl⟩ := KC.out _ bX
  have bs := bW.size
  go_wp2_with fail
  refine (HFW.out _ _ (HONE.out _ bW)).mono ?_
  rintro e w2 ⟨⟨ok, rfl, -⟩, hb2⟩
  have bF := (bW.alloc bs _).trans (hb2.mono (by simp; omega))
  cases ok
  all_goals
    go_wp2
    go_ret
    exact ⟨rfl, bF⟩
set_option maxRecDepth 100000 in
set_option maxHeartbeats 16000000 in
theorem supported_b (c : Cat) (s : ByteArray) (q : List Ask) (c1 c2 c3 vq : Value) (w : World) (B : Nat) (hB : B ≤ w.heap.size) (h : CatRep w B c c1 c2 c3) (hq : Asks w B q vq) (hV : VarOk w) (hsz : ¬ 10 < s.size) :
    Calls Tryz.prog 5 #[.agg #[c1, c2, c3], .string s, vq] w fun e w' => e = .returned (.bool true) ∧ Below w.heap.size w w' := by
  have b0 : Below w.heap.size w (w.alloc (catC c1 c2 c3)) := (Below.refl _ _).alloc (Nat.le_refl _) _
  have HA := Lib.hid (awake6_c (w.alloc (catC c1 c2 c3)) (hV.below b0))
  have HVR := Lib.hid (fun (W : World) (hW : Below w.heap.size w W) => hV.below hW)
  have HFW := Lib.hid (fun (v : Value) (W : World) (hv : SlRep 3 catR W (fun b => b < W.heap.size) [c] v) => few5_c [c] v W W.heap.size (Nat.le_refl _) hv)
  have HFQ := Lib.hid (fun (W : World) (hW : Below w.heap.size w W) => rfewQ_c q vq W B (hq.below askS (hW.mono hB)))
  have HNG := Lib.hid (fun (W : World) (hW : Below w.heap.size w W) => askAny_c 28 #[] negB q vq W B (Nat.le_trans hB hW.size) (hq.below askS (hW.mono hB)) (fun _ _ => by kernel_rfl) (fun x W' _ _ => sup1_c x W'))
  have HCC := Lib.hid (fun (hF : FewOk c) (W : World) (hW : Below w.heap.size w W) => rcopy_c c c1 c2 c3 W B (Nat.le_trans hB hW.size) (h.below (hW.mono hB)) hF)
  have HCQ := Lib.hid (fun (hn : q.length ≤ 100000) (W : World) (hW : Below w.heap.size w W) => cloneA_c q vq W B (Nat.le_trans hB hW.size) (hq.below askS (hW.mono hB)) hn)
  have HBD := Lib.hid (fun (v1 v2 v3 : Value) (W : World) (hr : CatRep W W.heap.size c v1 v2 v3) => iBuild_c c s v1 v2 v3 W W.heap.size (Nat.le_refl _) hr)
  have hb0 : Below (w.heap.size + 1) (w.alloc (catC c1 c2 c3)) (w.alloc (catC c1 c2 c3)) := Below.refl _ _
  have KC := Lib.hid (fun (W : World) (hW : Below (w.heap.size + 1) (w.alloc (catC c1 c2 c3)) W) => catW_at hW)
  have HUP := Lib.hid (fun (W : World) (hW : Below (w.heap.size + 1) (w.alloc (catC c1 c2 c3)) W) => b0.trans (hW.mono (Nat.le_succ _)))
  have hsO : w.heap.size + 1 ≤ (w.alloc (catC c1 c2 c3)).heap.size := by simp
  have HONE := Lib.hid (fun (W : World) (hW : Below w.heap.size w W) => cat_one hB h (W := W.alloc (catC c1 c2 c3)) (g := W.heap.size) (hW.alloc hW.size _) (heap_newS W _))
  have hl' : decide ((10 : Int) < (s.size : Int)) = false := decide_eq_false (by omega)
  obtain ⟨A1, ca1, rfl, -⟩ := id h.langs
  obtain ⟨A2, ca2, rfl, -⟩ := id h.labels
  obtain ⟨A3, ca3, rfl, hd1, hd2, -⟩ := id h.sheets
  obtain ⟨Aq, cq, rfl, -⟩ := id hq
  have HSH := Lib.hid (fun (k : Nat) (x : Sheet) (hx : c.sheets[k]? = some x) (W : World) (hW : Below w.heap.size w W) => Sheets.at_ (h.sheets.below shtS (hW.mono hB)) hx)
  clear hsz h hV hq
  go_enter Tryz.func5, Tryz.ntmps5
  go_wp2_with fail
  refine HA.out.mono ?_
  rintro e w1 ⟨rfl, b1⟩
  have bX := bnd_call hb0 hsO b1
  have bW := HUP.out _ bX
  obtain ⟨z0, z1, z2, zl⟩ := KC.out _ bX
  have bs := bW.size
  go_wp2_with fail
  refine (HFW.out _ _ (HONE.out _ bW)).mono ?_
  rintro e w2 ⟨⟨ok, rfl, hfew⟩, hb2⟩
  have b2 : Below w1.heap.size w1 (w1.alloc (catC (.slice A1 c.langs.length ca1) (.slice A2 c.labels.length ca2) (.slice A3 c.sheets.length ca3))) := (Below.refl _ _).alloc (Nat.le_refl _) _
  have bX := bnd_call bX hsO (b2.trans (hb2.mono b2.size))
  have bW := HUP.out _ bX
  clear z0 z1 z2 zl b1 b2 hb2 bs
  cases ok
  · go_wp2
    go_ret
    exact ⟨rfl, bW⟩
  · have hF := hfew rfl c (by simp)
    clear hfew
    have HFX := Lib.hid (HFQ.out _ bW)
    cases hfq : fewQ q
    · rw [hfq] at HFX
      go_wp2_with fail
      refine HFX.out.mono ?_
      rintro e w3 ⟨rfl, rfl⟩
      go_wp2
      go_ret
      exact ⟨rfl, bW⟩
    · rw [hfq] at HFX
      have HNX := Lib.hid (HNG.out _ bW)
      cases hng : q.any negB
      · rw [hng] at HNX
        obtain ⟨hq33, hq70⟩ := fewQ_iff.1 hfq
        obtain ⟨Q, hQ⟩ := tree_any q
        have hops : ∀ a ∈ q, a.op ≠ 8 ∧ a.op ≠ 4 ∧ a.op ≠ 5 := fun a ha => by
          have := List.any_eq_false.1 hng a ha
          unfold negB at this
          simp only [Bool.or_eq_true, decide_eq_true_eq, not_or] at this
          exact ⟨this.1, this.2.1, this.2.2⟩
        have hq70 : ∀ a ∈ q, a.text.size ≤ 1000000 := fun a ha => Nat.le_trans (hq70 a ha) (by omega)
        have HFI := Lib.hid (fun (v1 v2 v3 vl vq' : Value) (W : World) (hW : Below w.heap.size w W) (hr : CatRep W W.heap.size c v1 v2 v3) (hl : Posts W W.heap.size (buildF c s) vl) (hq' : Asks W W.heap.size q vq') => sfind_c c s (buildF c s) q Q v1 v2 v3 vl vq' W W.heap.size (Nat.le_refl _) hr hl hq' hQ hq70 (fun h0 => few14 hF h0) (HVR.out W hW))
        have hlen : (buildF c s).length ≤ 65536 := by
          by_cases he : buildE c s = 0
          · exact (chk_words (build_right he)).1
          · rw [build_none he]; simp
        have HCL := Lib.hid (fun (vl : Value) (W : World) (hl : Posts W W.heap.size (buildF c s) vl) => clonePosts_c (buildF c s) vl W W.heap.size (Nat.le_refl _) hl (by omega))
        have HSP := Lib.hid (fun (hE : findE c s (buildF c s) q = 0) (u : Int) (vl vq' : Value) (W : World) (hW : Below w.heap.size w W) (hl : Posts W W.heap.size (buildF c s) vl) (hq' : Asks W W.heap.size q vq') => (by
          obtain ⟨e0, e1, -, e3, -⟩ := find_l hE
          have hc := build_right e3
          have hp : posG q 0 = posQ Q := by rw [← (hQ e1).2]; exact posG_is (hQ e1).1
          have := Support_c (buildF c s) u q vl vq' W W.heap.size (Nat.le_refl _) hl hq' (chk_words hc).2 hq70 (HVR.out W hW)
          have hs0 : suppE (buildF c s) q = 0 := by unfold suppE; rw [if_neg (by simp [hc, e1])]
          have hsl : suppL (buildF c s) u q = supF (buildF c s) u (posQ Q) := by unfold suppL; rw [if_pos hs0, hp]
          rw [hs0, hsl] at this
          exact this : Calls Tryz.prog 24 #[vl, .int .i64 u, vq'] W fun e w' => ∃ v', e = .returned (.tuple #[v', .int .i64 0]) ∧ OwnRep 4 (flat Post.enc) 36 W.heap.size w' (supF (buildF c s) u (posQ Q)) v' ∧ Below W.heap.size W w'))
        have HSU := Lib.hid (fun (hE : findE c s (buildF c s) q = 0) (x : Hit) (hx : x ∈ findL c s (undB c) (buildF c s) q Q) => find_sup hE (hQ (find_l hE).2.1) hops hx)
        have HSO := Lib.hid (fun (u : Int) (p : Post) (hp : p ∈ supF (buildF c s) u (posQ Q)) => sup_own hp)
        have HFN := Lib.hid (show findE c s (buildF c s) q ≠ 0 → findL c s (undB c) (buildF c s) q Q = [] from fun he => by unfold findL; rw [if_neg he])
        have HCC := Lib.hid (HCC.out hF)
        have HCQ := Lib.hid (HCQ.out (by omega))
        clear hfq hQ hq70 HFQ HA HONE HFW hng hops hF hlen HNG
        generalize findL c s (undB c) (buildF c s) q Q = H at *
        generalize findE c s (buildF c s) q = fe at *
        obtain ⟨z0, z1, z2, zl⟩ := KC.out _ bX
        go_wp2_with fail
        refine HFX.out.mono ?_
        rintro e w3 ⟨rfl, rfl⟩
        go_wp2_with fail
        refine HNX.out.mono ?_
        rintro e w3 ⟨rfl, hb3⟩
        have bX := bnd_call bX hsO hb3
        clear z0 z1 z2 zl hb3 HFX HNX
        obtain ⟨z0, z1, z2, zl⟩ := KC.out _ bX
        go_wp2_with fail
        refine (HCC.out _ (HUP.out _ bX)).mono ?_
        rintro e w4 ⟨e1, e2, e3, rfl, hr4, -, hb4⟩
        have bX := bnd_call bX hsO hb4
        go_wp2_with fail
        refine (HBD.out _ _ _ _ hr4).mono ?_
        rintro e w5 ⟨vL, rfl, hL, hb5⟩
        have bX := bnd_call bX hsO hb5
        have hL5 := hL.toSl pstS
        obtain ⟨AL, nL, cL, rfl, -⟩ := own_form pstS hL
        clear hr4 hL hb4 hb5 z0 z1 z2 zl
        have o6 : Below w5.heap.size w5 (w5.alloc (.cells #[.slice AL nL cL] 23)) := (Below.refl _ _).alloc (Nat.le_refl _) _
        have bX := bnd_call bX hsO o6
        have hLB := heap_newS w5 (.cells #[.slice AL nL cL] 23)
        have hL6 := (hL5.below pstS o6).mono pstS o6.size
        obtain ⟨w6, hw6⟩ : ∃ w6, w5.alloc (.cells #[.slice AL nL cL] 23) = w6 := ⟨_, rfl⟩
        have hw6s : w6.heap.size = w5.heap.size + 1 := by rw [← hw6]; simp
        rw [hw6] at bX hLB hL6 o6
        go_wp2
        clear hw6 hL5 o6
        have hlt5 : w5.heap.size < w6.heap.size := by omega
        have HBX := Lib.hid (fun (W : World) (hW : Below w6.heap.size w6 W) => bnd_call bX hsO hW)
        have KS := Lib.hid (fun (W : World) (hW : Below w6.heap.size w6 W) => (by
          obtain ⟨z0, z1, z2, zl⟩ := KC.out _ (HBX.out W hW)
          exact ⟨z0, z1, z2, (hW.cell (p := ⟨w5.heap.size, 0, none⟩) hlt5).trans (by rw [Lib.cell_of_heap hLB]; rfl)⟩ : W.cell? ⟨w.heap.size, 0, none⟩ = some (.slice A1 c.langs.length ca1) ∧ W.cell? ⟨w.heap.size, 1, none⟩ = some (.slice A2 c.labels.length ca2) ∧ W.cell? ⟨w.heap.size, 2, none⟩ = some (.slice A3 c.sheets.length ca3) ∧ W.cell? ⟨w5.heap.size, 0, none⟩ = some (.slice AL nL cL)))
        have hlp := Lib.hid (fun (W : World) (hW : Below w6.heap.size w6 W) => (hL6.below pstS hW).mono pstS hW.size)
        have hbY : Below w6.heap.size w6 w6.drew := (Below.refl _ _).drew
        go_region_held3 (fun W => W.cell? ⟨w.heap.size, 0, none⟩ = some (.slice A1 c.langs.length ca1) ∧ W.cell? ⟨w.heap.size, 1, none⟩ = some (.slice A2 c.labels.length ca2) ∧ W.cell? ⟨w.heap.size, 2, none⟩ = some (.slice A3 c.sheets.length ca3) ∧ W.cell? ⟨w5.heap.size, 0, none⟩ = some (.slice AL nL cL)) (with_reducible exact KS.out _ hbY) (first
          | (go_at_call 21; (with_reducible refine (HCC.out _ (HUP.out _ (HBX.out _ hbY))).mono ?_); rintro e w9 ⟨e1, e2, e3, rfl, hre, -, hb9⟩; have hbY := bnd_call hbY (Nat.le_refl _) hb9)
          | (go_at_call 16; (with_reducible refine (HCL.out _ _ (hlp.out _ hbY)).mono ?_); rintro e w10 ⟨v10, rfl, hoc, hb10⟩; have hbY := bnd_call hbY (Nat.le_refl _) hb10; have hre := (hre.below hb10).mono hb10.size; have hcp := hoc.toSl pstS)
          | (go_at_call 23; (with_reducible refine (HCQ.out _ (HUP.out _ (HBX.out _ hbY))).mono ?_); rintro e w11 ⟨v11, rfl, hoq, hb11⟩; have hbY := bnd_call hbY (Nat.le_refl _) hb11; have hre := (hre.below hb11).mono hb11.size; have hcp := (hcp.below pstS hb11).mono pstS hb11.size; have hqp := hoq.toSl askS)
          | (go_at_call 22; (with_reducible refine (HFI.out _ _ _ _ _ _ (HUP.out _ (HBX.out _ hbY)) hre hcp hqp).mono ?_); rintro e w12 ⟨v12, rfl, hoh, hb12⟩; have hbY := bnd_call hbY (Nat.le_refl _) hb12))
        have hh12 := hoh.toSl hitS
        obtain ⟨AH, nH, cH, rfl, hnH⟩ := own_form hitS hoh
        clear hoh hre hcp hqp hoc hoq hb9 hb10 hb11 hb12 HFI
        by_cases hfe : fe = 0
        · subst hfe
          have HSP2 := Lib.hid (HSP.out rfl)
          have HSU2 := Lib.hid (HSU.out rfl)
          clear HSP HSU
          have HH2 := Lib.hid (show Calls Tryz.prog 29 #[.slice AH nH cH, .func (.func 30) #[] #[]] w12 fun e w' => e = .returned (.bool false) ∧ Below w12.heap.size w12 w' from by
            have := hitAny_c 30 #[] (fun x => decide (x.score < 1)) H (.slice AH nH cH) w12 w12.heap.size (Nat.le_refl _) hh12 (fun _ _ => by kernel_rfl) (fun x W' _ _ => sup2_c x W')
            rwa [show (H.any fun x => decide (x.score < 1)) = false from List.any_eq_false.2 fun x hx => by have := (HSU2.out x hx).2; simp; omega] at this)
          go_wp2_with fail
          refine HH2.out.mono ?_
          rintro e w13 ⟨rfl, hb13⟩
          have hbY := bnd_call hbY (Nat.le_refl _) hb13
          have HBY := Lib.hid (fun (W : World) (hW : Below w13.heap.size w13 W) => bnd_call hbY (Nat.le_refl _) hW)
          have HHP := Lib.hid (fun (W : World) (hW : Below w13.heap.size w13 W) => ((hh12.below hitS hb13).mono hitS hb13.size |>.below hitS hW).mono hitS hW.size)
          obtain ⟨z0, z1, z2, z3⟩ := KS.out _ hbY
          have zl0 : w.heap.size < w13.heap.size := by have := (KC.out _ (HBX.out _ hbY)).2.2.2; exact this
          have hs13 : w6.heap.size ≤ w13.heap.size := hbY.size
          clear HH2 hh12 hb13 hnH HFN
          go_wp2
          clear z0 z1 z2 z3
          go_loopw [63] (fun i wr => ∃ k : Nat, k ≤ c.sheets.length ∧ i = .int .i64 k ∧ Below w13.heap.size w13 wr) (fun i _ => c.sheets.length - (intOf i).toNat)
          case atStart => exact ⟨0, Nat.zero_le _, rfl, Below.refl _ _⟩
          case round =>
            obtain ⟨k, hk, rfl, bw⟩ := hrel
            have bwY := HBY.out _ bw
            have bwW := HUP.out _ (HBX.out _ bwY)
            by_cases hlt : k < c.sheets.length
            · obtain ⟨x, hx⟩ := get_at c.sheets hlt
              obtain ⟨b, off, vf, rfl, hbB, g0, g1, g2, g3, g4, g5, hvf⟩ := HSH.out k x hx _ bwW
              have hbw : b < wr.heap.size := by have : b < B := hbB; have := bwW.size; omega
              obtain ⟨Af, cf, rfl, -⟩ := id hvf
              have hki : (k : Int) < (c.sheets.length : Int) := by omega
              have hwk : IntKind.i64.wrap ((k : Int) + 1) = (k : Int) + 1 := IntWalk.i64_in _ (by omega)
              have hx1 : Below wr.heap.size wr (wr.alloc (shtC x (.slice Af x.facts.length cf))) := (Below.refl _ _).alloc (Nat.le_refl _) _
              have bw1 := bw.trans (hx1.mono bw.size)
              have HB1 := Lib.hid (fun (W : World) (hW : Below (wr.alloc (shtC x (.slice Af x.facts.length cf))).heap.size (wr.alloc (shtC x (.slice Af x.facts.length cf))) W) => HBY.out _ (bw1.trans (hW.mono bw1.size)))
              have KX := Lib.hid (fun (W : World) (hW : Below (wr.alloc (shtC x (.slice Af x.facts.length cf))).heap.size (wr.alloc (shtC x (.slice Af x.facts.length cf))) W) => (⟨(KS.out _ (HB1.out W hW)).2.2.2, (hW.cell (p := ⟨wr.heap.size, 0, none⟩) (by simp)).trans (by simp)⟩ : W.cell? ⟨w5.heap.size, 0, none⟩ = some (.slice AL nL cL) ∧ W.cell? ⟨wr.heap.size, 0, none⟩ = some (.int .i64 x.unit)))
              have hbZ : Below (wr.alloc (shtC x (.slice Af x.facts.length cf))).heap.size (wr.alloc (shtC x (.slice Af x.facts.length cf))) (wr.alloc (shtC x (.slice Af x.facts.length cf))).drew := (Below.refl _ _).drew
              have hnil := Lib.hid (fun (h0 : supF (buildF c s) x.unit (posQ Q) = []) => (List.any_eq_false.2 fun z hz => by
                simp only [decide_eq_true_eq]
                intro e
                exact (HSU2.out z hz).1 (by rw [e]; exact h0) : (H.any fun z => decide (z.unit = x.unit)) = false))
              have HPX := Lib.hid (HSP2.out x.unit)
              have HSX := Lib.hid (HSO.out x.unit)
              clear hx hvf hbB
              generalize supF (buildF c s) x.unit (posQ Q) = P at *
              go_wp2
              clear g0 g1 g2 g3 g4 g5
              go_region_held3 (fun W => W.cell? ⟨w5.heap.size, 0, none⟩ = some (.slice AL nL cL) ∧ W.cell? ⟨wr.heap.size, 0, none⟩ = some (.int .i64 x.unit)) (with_reducible exact KX.out _ hbZ) (first
                | (go_at_call 16; (with_reducible refine (HCL.out _ _ (hlp.out _ (HB1.out _ hbZ))).mono ?_); rintro e w14 ⟨v14, rfl, hoc, hb14⟩; have hbZ := bnd_call hbZ (Nat.le_refl _) hb14; have hcp := hoc.toSl pstS)
                | (go_at_call 23; (with_reducible refine (HCQ.out _ (HUP.out _ (HBX.out _ (HB1.out _ hbZ)))).mono ?_); rintro e w15 ⟨v15, rfl, hoq, hb15⟩; have hbZ := bnd_call hbZ (Nat.le_refl _) hb15; have hcp := (hcp.below pstS hb15).mono pstS hb15.size; have hqp := hoq.toSl askS)
                | (go_at_call 24; (with_reducible refine (HPX.out _ _ _ (HUP.out _ (HBX.out _ (HB1.out _ hbZ))) hcp hqp).mono ?_); rintro e w16 ⟨v16, rfl, hop, hb16⟩; have hbZ := bnd_call hbZ (Nat.le_refl _) hb16))
              have hpp := hop.toSl pstS
              obtain ⟨AP, nP, cP, rfl, hnP⟩ := own_form pstS hop
              clear hop hoc hoq hcp hqp hb14 hb15 hb16 HPX
              have HP4 := Lib.hid (fun (W : World) (hW : Below w16.heap.size w16 W) => (by
                have hZ := bnd_call hbZ (Nat.le_refl _) hW
                have := pstAny_c 33 #[.pointer (some ⟨wr.heap.size, 0, none⟩), .pointer (some ⟨w5.heap.size, 0, none⟩)] (fun _ => false) P (.slice AP nP cP) W W.heap.size (Nat.le_refl _) ((hpp.below pstS hW).mono pstS hW.size) (fun _ _ => by kernel_rfl) (fun p W' hp hW' => by
                  have hZ' := bnd_call hZ (Nat.le_refl _) hW'
                  obtain ⟨k1, k2⟩ := KX.out _ hZ'
                  have hsz := hZ'.size
                  simp at hsz
                  have hs0 := bw.size
                  exact sup4_c p (buildF c s) x.unit wr.heap.size w5.heap.size _ W' W'.heap.size (Nat.le_refl _) k2 (by omega) k1 (by omega) (hlp.out _ (HB1.out _ hZ')) (HSX.out p hp).1 (HSX.out p hp).2)
                rwa [show (P.any fun _ => false) = false from List.any_eq_false.2 fun _ _ => by simp] at this : Calls Tryz.prog 32 #[.slice AP nP cP, .func (.func 33) #[] #[.pointer (some ⟨wr.heap.size, 0, none⟩), .pointer (some ⟨w5.heap.size, 0, none⟩)]] W fun e w' => e = .returned (.bool false) ∧ Below W.heap.size W w'))
              by_cases hP : P = []
              · have HP3 := Lib.hid (show Calls Tryz.prog 29 #[.slice AH nH cH, .func (.func 31) #[] #[.pointer (some ⟨wr.heap.size, 0, none⟩)]] w16 fun e w' => e = .returned (.bool false) ∧ Below w16.heap.size w16 w' from by
                  have := hitAny_c 31 #[.pointer (some ⟨wr.heap.size, 0, none⟩)] (fun z => decide (z.unit = x.unit)) H (.slice AH nH cH) w16 w16.heap.size (Nat.le_refl _) (HHP.out _ (bw1.trans (hbZ.mono bw1.size))) (fun _ _ => by kernel_rfl) (fun z W' _ hW' => by
                    have hZ' := bnd_call hbZ (Nat.le_refl _) hW'
                    have hsz := hZ'.size
                    simp at hsz
                    exact sup3_c z x.unit wr.heap.size W' (KX.out _ hZ').2 (by omega))
                  rwa [hnil.out hP] at this)
                have hn0 : nP = 0 := by rw [hnP.out, hP]; rfl
                subst hn0
                clear hP hpp hnP hnil HSX
                go_wp2_with fail
                refine HP3.out.mono ?_
                rintro e w17 ⟨rfl, hb17⟩
                have hbZ := bnd_call hbZ (Nat.le_refl _) hb17
                go_wp2_with fail
                refine (HP4.out _ hb17).mono ?_
                rintro e w18 ⟨rfl, hb18⟩
                have hbZ := bnd_call hbZ (Nat.le_refl _) hb18
                go_wp2
                go_roundw
                case rel => exact ⟨k + 1, by omega, by go_num, bw1.trans (hbZ.mono bw1.size)⟩
                case measure => simp [intOf]; omega
              · have hn0 : ((nP : Int) == 0) = false := by
                  have : 0 < P.length := List.length_pos_iff.2 hP
                  have := hnP.out
                  rw [beq_eq_false_iff_ne]
                  omega
                clear hP hpp hnP hnil HSX
                go_wp2_with fail
                refine (HP4.out _ (Below.refl _ _)).mono ?_
                rintro e w18 ⟨rfl, hb18⟩
                have hbZ := bnd_call hbZ (Nat.le_refl _) hb18
                go_wp2
                go_roundw
                case rel => exact ⟨k + 1, by omega, by go_num, bw1.trans (hbZ.mono bw1.size)⟩
                case measure => simp [intOf]; omega
            · have hki : ¬ (k : Int) < (c.sheets.length : Int) := by omega
              go_wp2
              go_ret
              exact ⟨rfl, bwW⟩
        · have hfe' : (fe != 0) = true := by simp [hfe]
          have hn0 : nH = 0 := by rw [hnH.out, HFN.out hfe]; rfl
          subst hn0
          clear hfe
          go_wp2
          go_ret
          exact ⟨rfl, HUP.out _ (HBX.out _ hbY)⟩
      · rw [hng] at HNX
        go_wp2_with fail
        refine HFX.out.mono ?_
        rintro e w3 ⟨rfl, rfl⟩
        go_wp2_with fail
        refine HNX.out.mono ?_
        rintro e w4 ⟨rfl, hb4⟩
        go_wp2
        go_ret
        exact ⟨rfl, bW.trans (hb4.mono bW.size)⟩
theorem supported_law (c : Cat) (s : ByteArray) (q : List Ask) (c1 c2 c3 vq : Value) (w : World) (B : Nat) (hB : B ≤ w.heap.size) (h : CatRep w B c c1 c2 c3) (hq : Asks w B q vq) (hV : VarOk w) :
    Calls Tryz.prog 5 #[.agg #[c1, c2, c3], .string s, vq] w fun e w' => e = .returned (.bool true) ∧ Below w.heap.size w w' := by
  by_cases hsz : 10 < s.size
  · exact supported_a c s c1 c2 c3 vq w B hB h hV hsz
  · exact supported_b c s q c1 c2 c3 vq w B hB h hq hV hsz
end Go.Proofs.YtngodakkdhdmjaaGreatDoor
