/- SearchUpdated returns true. -/
import Derived.Test.YtngodakkdhdmjaaGreatDoorFwQ
import Derived.Test.YtngodakkdhdmjaaGreatDoorPlS
namespace Go.Proofs.YtngodakkdhdmjaaGreatDoor
open Go.RowKit

abbrev upO (a1 a2 a3 b1 b2 b3 : Value) (w : World) : World := (w.alloc (catC a1 a2 a3)).alloc (catC b1 b2 b3)
abbrev upC (a1 a2 a3 b1 b2 b3 : Value) : Obj := .cells #[a1, a2, a3, b1, b2, b3] 41
set_option maxRecDepth 100000 in
set_option maxHeartbeats 8000000 in
theorem updated_a (a b : Cat) (s : ByteArray) (a1 a2 a3 b1 b2 b3 vq : Value) (w : World) (B : Nat) (hB : B ≤ w.heap.size) (ha : CatRep w B a a1 a2 a3) (hb : CatRep w B b b1 b2 b3) (hV : VarOk w) (hsz : 10 < s.size) :
    Calls Tryz.prog 7 #[.agg #[a1, a2, a3], .agg #[b1, b2, b3], .string s, vq] w fun e w' => e = .returned (.bool true) ∧ Below w.heap.size w w' := by
  have b0 : Below w.heap.size w (upO a1 a2 a3 b1 b2 b3 w) := ((Below.refl _ _).alloc (Nat.le_refl _) _).alloc (by simp) _
  have HA := Lib.hid (awake6_c (upO a1 a2 a3 b1 b2 b3 w) (hV.below b0))
  have HFW := Lib.hid (fun (v : Value) (W : World) (hv : SlRep 3 catR W (fun b => b < W.heap.size) [a, b] v) => few5_c [a, b] v W W.heap.size (Nat.le_refl _) hv)
  have hb0 : Below (w.heap.size + 2) (upO a1 a2 a3 b1 b2 b3 w) (upO a1 a2 a3 b1 b2 b3 w) := Below.refl _ _
  have KC := Lib.hid (fun (W : World) (hW : Below (w.heap.size + 2) (upO a1 a2 a3 b1 b2 b3 w) W) => catW2_at hW)
  have HTWO := Lib.hid (fun (W : World) (hW : Below w.heap.size w W) => cat_two hB ha hb (W := W.alloc (upC a1 a2 a3 b1 b2 b3)) (g := W.heap.size) (hW.alloc hW.size _) (heap_newS W _))
  have hl' : decide ((10 : Int) < (s.size : Int)) = true := decide_eq_true (by omega)
  obtain ⟨A1, ca1, rfl, -⟩ := id ha.langs
  obtain ⟨A2, ca2, rfl, -⟩ := id ha.labels
  obtain ⟨A3, ca3, rfl, -⟩ := id ha.sheets
  obtain ⟨B1, cb1, rfl, -⟩ := id hb.langs
  obtain ⟨B2, cb2, rfl, -⟩ := id hb.labels
  obtain ⟨B3, cb3, rfl, -⟩ := id hb.sheets
  clear hsz ha hb hV
  go_enter Tryz.func7, Tryz.ntmps7
  go_wp2_with fail
  refine HA.out.mono ?_
  rintro e w1 ⟨rfl, b1⟩
  have bX := bnd_call hb0 (by simp) b1
  have bW := b0.trans (bX.mono (Nat.le_add_right _ 2))
  obtain ⟨z0, z1, z2, z3, z4, z5, zl⟩ := KC.out _ bX
  have zl0 := Nat.lt_of_succ_lt zl
  have bs := bW.size
  go_wp2_with fail
  refine (HFW.out _ _ (HTWO.out _ bW)).mono ?_
  rintro e w2 ⟨⟨ok, rfl, -⟩, hb2⟩
  have bF := (bW.alloc bs _).trans (hb2.mono (by simp; omega))
  cases ok
  all_goals
    go_wp2
    go_ret
    exact ⟨rfl, bF⟩
set_option maxRecDepth 100000 in
set_option maxHeartbeats 16000000 in
theorem updated_b (a b : Cat) (s : ByteArray) (q : List Ask) (a1 a2 a3 b1 b2 b3 vq : Value) (w : World) (B : Nat) (hB : B ≤ w.heap.size) (ha : CatRep w B a a1 a2 a3) (hb : CatRep w B b b1 b2 b3) (hq : Asks w B q vq) (hV : VarOk w) (hsz : ¬ 10 < s.size) :
    Calls Tryz.prog 7 #[.agg #[a1, a2, a3], .agg #[b1, b2, b3], .string s, vq] w fun e w' => e = .returned (.bool true) ∧ Below w.heap.size w w' := by
  have b0 : Below w.heap.size w (upO a1 a2 a3 b1 b2 b3 w) := ((Below.refl _ _).alloc (Nat.le_refl _) _).alloc (by simp) _
  have HA := Lib.hid (awake6_c (upO a1 a2 a3 b1 b2 b3 w) (hV.below b0))
  have HVR := Lib.hid (fun (W : World) (hW : Below w.heap.size w W) => hV.below hW)
  have HFW := Lib.hid (fun (v : Value) (W : World) (hv : SlRep 3 catR W (fun b => b < W.heap.size) [a, b] v) => few5_c [a, b] v W W.heap.size (Nat.le_refl _) hv)
  have HFQ := Lib.hid (fun (W : World) (hW : Below w.heap.size w W) => rfewQ_c q vq W B (hq.below askS (hW.mono hB)))
  have HCA := Lib.hid (fun (hF : FewOk a) (W : World) (hW : Below w.heap.size w W) => rcopy_c a a1 a2 a3 W B (Nat.le_trans hB hW.size) (ha.below (hW.mono hB)) hF)
  have HCB := Lib.hid (fun (hF : FewOk b) (W : World) (hW : Below w.heap.size w W) => rcopy_c b b1 b2 b3 W B (Nat.le_trans hB hW.size) (hb.below (hW.mono hB)) hF)
  have HCQ := Lib.hid (fun (hn : q.length ≤ 100000) (W : World) (hW : Below w.heap.size w W) => cloneA_c q vq W B (Nat.le_trans hB hW.size) (hq.below askS (hW.mono hB)) hn)
  have HBD := Lib.hid (fun (x : Cat) (v1 v2 v3 : Value) (W : World) (hr : CatRep W W.heap.size x v1 v2 v3) => iBuild_c x s v1 v2 v3 W W.heap.size (Nat.le_refl _) hr)
  have hb0 : Below (w.heap.size + 2) (upO a1 a2 a3 b1 b2 b3 w) (upO a1 a2 a3 b1 b2 b3 w) := Below.refl _ _
  have KC := Lib.hid (fun (W : World) (hW : Below (w.heap.size + 2) (upO a1 a2 a3 b1 b2 b3 w) W) => catW2_at hW)
  have HUP := Lib.hid (fun (W : World) (hW : Below (w.heap.size + 2) (upO a1 a2 a3 b1 b2 b3 w) W) => b0.trans (hW.mono (Nat.le_add_right _ 2)))
  have hsO : w.heap.size + 2 ≤ (upO a1 a2 a3 b1 b2 b3 w).heap.size := by simp
  have HTWO := Lib.hid (fun (W : World) (hW : Below w.heap.size w W) => cat_two hB ha hb (W := W.alloc (upC a1 a2 a3 b1 b2 b3)) (g := W.heap.size) (hW.alloc hW.size _) (heap_newS W _))
  have hl' : decide ((10 : Int) < (s.size : Int)) = false := decide_eq_false (by omega)
  obtain ⟨A1, ca1, rfl, -⟩ := id ha.langs
  obtain ⟨A2, ca2, rfl, -⟩ := id ha.labels
  obtain ⟨A3, ca3, rfl, -⟩ := id ha.sheets
  obtain ⟨B1, cb1, rfl, -⟩ := id hb.langs
  obtain ⟨B2, cb2, rfl, -⟩ := id hb.labels
  obtain ⟨B3, cb3, rfl, -⟩ := id hb.sheets
  obtain ⟨Aq, cq, rfl, -⟩ := id hq
  clear hsz ha hb hV hq
  go_enter Tryz.func7, Tryz.ntmps7
  go_wp2_with fail
  refine HA.out.mono ?_
  rintro e w1 ⟨rfl, b1⟩
  have bX := bnd_call hb0 hsO b1
  have bW := HUP.out _ bX
  obtain ⟨z0, z1, z2, z3, z4, z5, zl⟩ := KC.out _ bX
  have zl0 := Nat.lt_of_succ_lt zl
  have bs := bW.size
  go_wp2_with fail
  refine (HFW.out _ _ (HTWO.out _ bW)).mono ?_
  rintro e w2 ⟨⟨ok, rfl, hfew⟩, hb2⟩
  have b2 : Below w1.heap.size w1 (w1.alloc (upC (.slice A1 a.langs.length ca1) (.slice A2 a.labels.length ca2) (.slice A3 a.sheets.length ca3) (.slice B1 b.langs.length cb1) (.slice B2 b.labels.length cb2) (.slice B3 b.sheets.length cb3))) := (Below.refl _ _).alloc (Nat.le_refl _) _
  have bX := bnd_call bX hsO (b2.trans (hb2.mono b2.size))
  have bW := HUP.out _ bX
  clear z0 z1 z2 z3 z4 z5 zl zl0 b1 b2 hb2 bs
  cases ok
  · go_wp2
    go_ret
    exact ⟨rfl, bW⟩
  · have hFa := hfew rfl a (by simp)
    have hFb := hfew rfl b (by simp)
    clear hfew
    have HFX := Lib.hid (HFQ.out _ bW)
    cases hfq : fewQ q
    · rw [hfq] at HFX
      go_wp2_with fail
      refine HFX.out.mono ?_
      rintro e w3 ⟨rfl, rfl⟩
      go_wp2
      go_ret
      exact ⟨rfl, bW⟩
    · rw [hfq] at HFX
      obtain ⟨hq33, hq70⟩ := fewQ_iff.1 hfq
      obtain ⟨Q, hQ⟩ := tree_any q
      have HFI := Lib.hid (fun (l : List Post) (v1 v2 v3 vl vq' : Value) (W : World) (hW : Below w.heap.size w W) (hr : CatRep W W.heap.size b v1 v2 v3) (hl : Posts W W.heap.size l vl) (hq' : Asks W W.heap.size q vq') => sfind_c b s l q Q v1 v2 v3 vl vq' W W.heap.size (Nat.le_refl _) hr hl hq' hQ (fun a ha => Nat.le_trans (hq70 a ha) (by omega)) (fun h0 => few14 hFb h0) (HVR.out W hW))
      have HCA := Lib.hid (HCA.out hFa)
      have HCB := Lib.hid (HCB.out hFb)
      have HCQ := Lib.hid (HCQ.out (by omega))
      clear hfq hQ hq70 HFQ HA HTWO HFW
      obtain ⟨z0, z1, z2, z3, z4, z5, zl⟩ := KC.out _ bX
      have zl0 := Nat.lt_of_succ_lt zl
      go_wp2_with fail
      refine HFX.out.mono ?_
      rintro e w3 ⟨rfl, rfl⟩
      go_wp2_with fail
      refine (HCA.out _ bW).mono ?_
      rintro e w3 ⟨c1, c2, c3, rfl, hr3, -, hb3⟩
      have bX := bnd_call bX hsO hb3
      go_wp2_with fail
      refine (HBD.out a _ _ _ _ hr3).mono ?_
      rintro e w4 ⟨vL, rfl, hL, hb4⟩
      have bX := bnd_call bX hsO hb4
      have hL4 := hL.toSl pstS
      obtain ⟨AL, nL, cL, rfl, -⟩ := own_form pstS hL
      clear hr3 hL z0 z1 z2 z3 z4 z5 zl zl0 hb3 hb4 HFX
      obtain ⟨z0, z1, z2, z3, z4, z5, zl⟩ := KC.out _ bX
      have zl0 := Nat.lt_of_succ_lt zl
      go_wp2_with fail
      refine (HCB.out _ (HUP.out _ bX)).mono ?_
      rintro e w5 ⟨c1, c2, c3, rfl, hr5, -, hb5⟩
      have bX := bnd_call bX hsO hb5
      go_wp2_with fail
      refine (HBD.out b _ _ _ _ hr5).mono ?_
      rintro e w6 ⟨vM, rfl, hM, hb6⟩
      have bX := bnd_call bX hsO hb6
      have hb46 := hb5.trans (hb6.mono hb5.size)
      have hL6 := (hL4.below pstS hb46).mono pstS hb46.size
      have hM6 := hM.toSl pstS
      obtain ⟨AM, nM, cM, rfl, -⟩ := own_form pstS hM
      clear hr5 hM hL4 hb5 hb6 hb46 z0 z1 z2 z3 z4 z5 zl zl0
      by_cases he : buildE a s = 0
      · by_cases hf : buildE b s = 0
        · have hUP := scratch_upd (b := b) he
          obtain ⟨hbl1, hbl2⟩ := chk_words (build_right he)
          have HUPD := Lib.hid (fun (vl v1 v2 v3 u1 u2 u3 : Value) (W : World) (h1 : Posts W W.heap.size (buildF a s) vl) (h2 : CatRep W W.heap.size a v1 v2 v3) (h3 : CatRep W W.heap.size b u1 u2 u3) => show Calls Tryz.prog 36 #[vl, .agg #[v1, v2, v3], .agg #[u1, u2, u3], .string s] W fun e w' => ∃ v u, e = .returned (.tuple #[v, u, .int .i64 0]) ∧ OwnRep 4 (flat Post.enc) 36 W.heap.size w' (buildF b s) v ∧ OwnRep 1 (flat intEnc) 3 W.heap.size w' (updU (buildF a s) a b s) u ∧ Below W.heap.size W w' by
            have := update_c (buildF a s) a b s vl v1 v2 v3 u1 u2 u3 W W.heap.size (Nat.le_refl _) h1 h2 h3 hbl2 (by omega)
            rwa [hUP.1, hUP.2, hf] at this)
          have HFX := Lib.hid (fun (v1 v2 v3 vl vq' : Value) (W : World) hW hr hl hq' => HFI.out (buildF b s) v1 v2 v3 vl vq' W hW hr hl hq')
          have HFL := Lib.hid (Nat.le_trans (find_len b s (undB b) (buildF b s) q Q) (Nat.le_trans hFb.sheets (by omega : 257 ≤ 100000)))
          generalize updU (buildF a s) a b s = uu at *
          generalize findE b s (buildF b s) q = fe at *
          generalize findL b s (undB b) (buildF b s) q Q = fl at *
          clear hUP hbl1 hbl2 HFI
          have KEEP := Lib.hid (fun (W : World) (hW : Below w6.heap.size w6 W) => KC.out W (bnd_call bX hsO hW))
          have HBX := Lib.hid (fun (W : World) (hW : Below w6.heap.size w6 W) => bnd_call bX hsO hW)
          have hbY : Below w6.heap.size w6 w6.drew := (Below.refl _ _).drew
          have hlp := Lib.hid (fun (W : World) (hW : Below w6.heap.size w6 W) => (hL6.below pstS hW).mono pstS hW.size)
          have hmp := Lib.hid (fun (W : World) (hW : Below w6.heap.size w6 W) => (hM6.below pstS hW).mono pstS hW.size)
          have KS := Lib.hid (fun (W : World) (hW : Below w6.heap.size w6 W) => (by
            obtain ⟨z0, z1, z2, z3, z4, z5, zl⟩ := KEEP.out W hW
            exact ⟨z0, z1, z2, z3, z4, z5⟩ : W.cell? ⟨w.heap.size, 0, none⟩ = some (.slice A1 a.langs.length ca1) ∧ W.cell? ⟨w.heap.size, 1, none⟩ = some (.slice A2 a.labels.length ca2) ∧ W.cell? ⟨w.heap.size, 2, none⟩ = some (.slice A3 a.sheets.length ca3) ∧ W.cell? ⟨w.heap.size + 1, 0, none⟩ = some (.slice B1 b.langs.length cb1) ∧ W.cell? ⟨w.heap.size + 1, 1, none⟩ = some (.slice B2 b.labels.length cb2) ∧ W.cell? ⟨w.heap.size + 1, 2, none⟩ = some (.slice B3 b.sheets.length cb3)))
          clear hL6 hM6
          go_wp2
          go_region_held3 (fun W => W.cell? ⟨w.heap.size, 0, none⟩ = some (.slice A1 a.langs.length ca1) ∧ W.cell? ⟨w.heap.size, 1, none⟩ = some (.slice A2 a.labels.length ca2) ∧ W.cell? ⟨w.heap.size, 2, none⟩ = some (.slice A3 a.sheets.length ca3) ∧ W.cell? ⟨w.heap.size + 1, 0, none⟩ = some (.slice B1 b.langs.length cb1) ∧ W.cell? ⟨w.heap.size + 1, 1, none⟩ = some (.slice B2 b.labels.length cb2) ∧ W.cell? ⟨w.heap.size + 1, 2, none⟩ = some (.slice B3 b.sheets.length cb3)) (with_reducible exact KS.out _ hbY) (first
            | (go_at_call 21; (with_reducible refine (HCA.out _ (HUP.out _ (HBX.out _ hbY))).mono ?_); rintro e w9 ⟨e1, e2, e3, rfl, hre, -, hb9⟩; have hbY := bnd_call hbY (Nat.le_refl _) hb9)
            | (go_at_call 21; (with_reducible refine (HCB.out _ (HUP.out _ (HBX.out _ hbY))).mono ?_); rintro e w10 ⟨f1, f2, f3, rfl, hrf, -, hb10⟩; have hbY := bnd_call hbY (Nat.le_refl _) hb10; have hre := (hre.below hb10).mono hb10.size)
            | (go_at_call 36; (with_reducible refine (HUPD.out _ _ _ _ _ _ _ _ (hlp.out _ hbY) hre hrf).mono ?_); rintro e w11 ⟨vn, vu, rfl, hon, hou, hb11⟩; have hbY := bnd_call hbY (Nat.le_refl _) hb11))
          have hnp := hon.toSl pstS
          obtain ⟨An, nn, cn, rfl, -⟩ := own_form pstS hon
          obtain ⟨Au, nu, cu, rfl, -⟩ := own_form intS hou
          clear hon hou hre hrf hb9 hb10 hb11
          obtain ⟨z0, z1, z2, z3, z4, z5, zl⟩ := KEEP.out _ hbY
          have zl0 := Nat.lt_of_succ_lt zl
          go_wp2_with fail
          refine (HCB.out _ (HUP.out _ (HBX.out _ hbY))).mono ?_
          rintro e w12 ⟨c1, c2, c3, rfl, hr12, -, hb12⟩
          have hbY := bnd_call hbY (Nat.le_refl _) hb12
          have hnp := (hnp.below pstS hb12).mono pstS hb12.size
          clear z0 z1 z2 z3 z4 z5 zl zl0 hb12
          go_wp2_with fail
          refine (HCQ.out _ (HUP.out _ (HBX.out _ hbY))).mono ?_
          rintro e w13 ⟨vq1, rfl, hq13, hb13⟩
          have hbY := bnd_call hbY (Nat.le_refl _) hb13
          have hnp := (hnp.below pstS hb13).mono pstS hb13.size
          have hr12 := (hr12.below hb13).mono hb13.size
          have hq13 := hq13.toSl askS
          have HF1 := Lib.hid (HFX.out _ _ _ _ _ _ (HUP.out _ (HBX.out _ hbY)) hr12 hnp hq13)
          obtain ⟨Aq1, cq1, rfl, -⟩ := id hq13
          clear hr12 hnp hq13 hb13
          go_wp2_with fail
          refine HF1.out.mono ?_
          rintro e w14 ⟨vx, rfl, hx14, hb14⟩
          have hbY := bnd_call hbY (Nat.le_refl _) hb14
          have hxp := hx14.toSl hitS
          obtain ⟨Ax, nx, cx, rfl, -⟩ := own_form hitS hx14
          clear hx14 hb14 HF1
          obtain ⟨z0, z1, z2, z3, z4, z5, zl⟩ := KEEP.out _ hbY
          have zl0 := Nat.lt_of_succ_lt zl
          go_wp2_with fail
          refine (HCB.out _ (HUP.out _ (HBX.out _ hbY))).mono ?_
          rintro e w15 ⟨c1, c2, c3, rfl, hr15, -, hb15⟩
          have hbY := bnd_call hbY (Nat.le_refl _) hb15
          have hxp := (hxp.below hitS hb15).mono hitS hb15.size
          clear z0 z1 z2 z3 z4 z5 zl zl0 hb15
          go_wp2_with fail
          refine (HCQ.out _ (HUP.out _ (HBX.out _ hbY))).mono ?_
          rintro e w16 ⟨vq2, rfl, hq16, hb16⟩
          have hbY := bnd_call hbY (Nat.le_refl _) hb16
          have hxp := (hxp.below hitS hb16).mono hitS hb16.size
          have hr15 := (hr15.below hb16).mono hb16.size
          have hq16 := hq16.toSl askS
          have HF2 := Lib.hid (HFX.out _ _ _ _ _ _ (HUP.out _ (HBX.out _ hbY)) hr15 (hmp.out _ hbY) hq16)
          obtain ⟨Aq2, cq2, rfl, -⟩ := id hq16
          clear hr15 hq16 hb16
          go_wp2_with fail
          refine HF2.out.mono ?_
          rintro e w17 ⟨vy, rfl, hy17, hb17⟩
          have hbY := bnd_call hbY (Nat.le_refl _) hb17
          have hxp := (hxp.below hitS hb17).mono hitS hb17.size
          have HEQ := Lib.hid (equalH_c fl HFL.out _ vy w17 w17.heap.size (Nat.le_refl _) hxp (hy17.toSl hitS))
          obtain ⟨Ay, ny, cy, rfl, -⟩ := own_form hitS hy17
          have hee : (fe == fe) = true := by simp
          clear hy17 hb17 HF2 hxp
          go_wp2_with fail
          refine HEQ.out.mono ?_
          rintro e w18 ⟨rfl, hb18⟩
          have hbY := bnd_call hbY (Nat.le_refl _) hb18
          go_wp2
          go_ret
          exact ⟨rfl, HUP.out _ (HBX.out _ hbY)⟩
        · have hf' : (buildE b s != 0) = true := by simp [hf]
          generalize buildE b s = zb at *
          generalize buildE a s = za at *
          go_wp2
          all_goals
            go_ret
            exact ⟨rfl, HUP.out _ bX⟩
      · have he' : (buildE a s != 0) = true := by simp [he]
        generalize buildE b s = zb at *
        generalize buildE a s = za at *
        go_wp2
        all_goals
          go_ret
          exact ⟨rfl, HUP.out _ bX⟩
theorem updated_law (a b : Cat) (s : ByteArray) (q : List Ask) (a1 a2 a3 b1 b2 b3 vq : Value) (w : World) (B : Nat) (hB : B ≤ w.heap.size) (ha : CatRep w B a a1 a2 a3) (hb : CatRep w B b b1 b2 b3) (hq : Asks w B q vq) (hV : VarOk w) :
    Calls Tryz.prog 7 #[.agg #[a1, a2, a3], .agg #[b1, b2, b3], .string s, vq] w fun e w' => e = .returned (.bool true) ∧ Below w.heap.size w w' := by
  by_cases hsz : 10 < s.size
  · exact updated_a a b s a1 a2 a3 b1 b2 b3 vq w B hB ha hb hV hsz
  · exact updated_b a b s q a1 a2 a3 b1 b2 b3 vq w B hB ha hb hq hV hsz
end Go.Proofs.YtngodakkdhdmjaaGreatDoor
