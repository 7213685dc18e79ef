/- InvertScratch returns true. -/
import Derived.Test.YtpfngehledgkiaaAwI
import Derived.Test.YtpfngehledgkiaaRfG
import Derived.Test.YtpfngehledgkiaaFwI
import Derived.Test.YtpfngehledgkiaaLbQ
import Derived.StillTailTactics
namespace Go.Proofs.Ytpfngehledgkiaa
open Go.RowKit

theorem chk_words {l : List Post} (h : chkL l = 0) : l.length ≤ 65536 ∧ ∀ p ∈ l, p.word.size ≤ 1000000 := by
  obtain ⟨h1, h2, -⟩ := chkL_zero h
  refine ⟨h1, fun p hp => ?_⟩
  have := h2 p hp
  unfold rightP at this
  simp only [Bool.and_eq_true, decide_eq_true_eq] at this
  omega
/-- a catalog's variable, set -/
abbrev set3 (W : World) (b : Nat) (v1 v2 v3 : Value) : World := ((W.setCell ⟨b, 0, none⟩ v1).setCell ⟨b, 1, none⟩ v2).setCell ⟨b, 2, none⟩ v3
theorem set3_at {W : World} {b : Nat} {a1 a2 a3 v1 v2 v3 : Value} (h : W.heap[b]? = some (catC a1 a2 a3)) : (set3 W b v1 v2 v3).heap[b]? = some (catC v1 v2 v3) := by
  simp [set3, World.setCell, Array.getElem?_modify, h]
theorem set1_at {W : World} {b : Nat} {a1 a2 a3 v1 : Value} (h : W.heap[b]? = some (catC a1 a2 a3)) : (W.setCell ⟨b, 0, none⟩ v1).heap[b]? = some (catC v1 a2 a3) := by
  simp [World.setCell, Array.getElem?_modify, h]
theorem set2_at {W : World} {b : Nat} {a1 a2 a3 v2 : Value} (h : W.heap[b]? = some (catC a1 a2 a3)) : (W.setCell ⟨b, 1, none⟩ v2).heap[b]? = some (catC a1 v2 a3) := by
  simp [World.setCell, Array.getElem?_modify, h]
theorem set3_ne {W : World} {b b' : Nat} {v1 v2 v3 : Value} (h : b' ≠ b) : (set3 W b v1 v2 v3).heap[b']? = W.heap[b']? := by
  unfold set3
  rw [Below.heap_setCell _ _ _ _ h, Below.heap_setCell _ _ _ _ h, Below.heap_setCell _ _ _ _ h]
theorem set3_below {B : Nat} {w W : World} {b : Nat} {v1 v2 v3 : Value} (h : Below B w W) (hb : B ≤ b) : Below B w (set3 W b v1 v2 v3) := ((h.setCell hb v1).setCell hb v2).setCell hb v3
theorem set3_size {W : World} {b : Nat} {v1 v2 v3 : Value} : (set3 W b v1 v2 v3).heap.size = W.heap.size := by simp [set3, World.setCell]
set_option maxRecDepth 100000 in
set_option maxHeartbeats 8000000 in
theorem scratch_law (cs : List Cat) (s : ByteArray) (v : Value) (w : World) (B : Nat) (hB : B ≤ w.heap.size) (h : SlRep 3 catR w (fun b => b < B) cs v) :
    Calls Try.prog 3 #[v, .string s] w fun e w' => e = .returned (.bool true) ∧ Below w.heap.size w w' := by
  have HA := Lib.hid (fun (W : World) => awake5_c W)
  have HFW := Lib.hid (fun (W : World) (hW : Below w.heap.size w W) => few5_c cs v W B (Nat.le_trans hB hW.size) (h.below catS (hW.mono hB)))
  obtain ⟨A, c, rfl, hc1, hc2, -⟩ := id h
  by_cases h0 : cs.length = 0 ∨ 5 < cs.length
  · rcases h0 with h0 | h0
    all_goals
      go_enter Try.func3, Try.ntmps3
      go_wp2_with fail
      refine (HA.out _).mono ?_
      rintro e w1 ⟨rfl, b1⟩
      go_wp2_with fail
      all_goals first
        | (exfalso; omega)
        | (go_ret
           exact ⟨rfl, b1⟩)
  · have hn0 : ¬ ((cs.length : Int) = 0) := by omega
    have hn1 : ((cs.length : Int) == 0) = false := by simpa using hn0
    have hn5 : ¬ ((5 : Int) < cs.length) := by omega
    obtain ⟨c0, hx0⟩ := get_at cs (show 0 < cs.length by omega)
    have HCT := Lib.hid (fun (i : Nat) (x : Cat) (hx : cs[i]? = some x) (W : World) (hW : Below w.heap.size w W) => Cats.at_ (h.below catS (hW.mono hB)) hx)
    have HCP := Lib.hid (fun (x : Cat) (v1 v2 v3 : Value) (W : World) (hW : Below w.heap.size w W) (hr : CatRep W B x v1 v2 v3) (hF : FewOk x) => rcopy_c x v1 v2 v3 W B (Nat.le_trans hB hW.size) hr hF)
    have HBD := Lib.hid (fun (x : Cat) (a1 a2 a3 : Value) (W : World) (hr : CatRep W W.heap.size x a1 a2 a3) => iBuild_c x s a1 a2 a3 W W.heap.size (Nat.le_refl _) hr)
    by_cases hl : 10 < s.size
    · have hl' : (10 : Int) < (s.size : Int) := by omega
      go_enter Try.func3, Try.ntmps3
      go_wp2_with fail
      refine (HA.out _).mono ?_
      rintro e w1 ⟨rfl, b1⟩
      go_wp2_with fail
      all_goals try (exfalso; omega)
      refine (HFW.out _ b1).mono ?_
      rintro e w2 ⟨⟨b, rfl, -⟩, hb2⟩
      cases b
      all_goals
        go_wp2
        go_ret
        exact ⟨rfl, b1.trans (hb2.mono b1.size)⟩
    · have hl' : ¬ (10 : Int) < (s.size : Int) := by omega
      go_enter Try.func3, Try.ntmps3
      go_wp2_with fail
      refine (HA.out _).mono ?_
      rintro e w1 ⟨rfl, b1⟩
      go_wp2_with fail
      all_goals try (exfalso; omega)
      refine (HFW.out _ b1).mono ?_
      rintro e w2 ⟨⟨b, rfl, hfew⟩, hb2⟩
      have bX := b1.trans (hb2.mono b1.size)
      cases b
      · go_wp2
        go_ret
        exact ⟨rfl, bX⟩
      · have hF := hfew rfl
        have hF0 := hF c0 (List.mem_of_getElem? hx0)
        obtain ⟨b, off, v1, v2, v3, e9, hbB, g0, g1, g2, hr0⟩ := HCT.out 0 c0 hx0 _ bX
        subst e9
        simp only [Nat.zero_mul, Nat.add_zero] at g0 g1 g2
        have hbw : b < w2.heap.size := by have : b < B := hbB; have := bX.size; omega
        have H0P := Lib.hid (hr0)
        clear hfew
        go_wp2_with fail
        refine (HCP.out c0 _ _ _ _ bX hr0 hF0).mono ?_
        rintro e w3 ⟨a1, a2, a3, rfl, hra, -, hb3⟩
        have bX3 := bX.trans (hb3.mono bX.size)
        go_wp2_with fail
        refine (HBD.out c0 _ _ _ _ hra).mono ?_
        rintro e w4 ⟨vx, rfl, hox, hb4⟩
        have bX4 := bX3.trans (hb4.mono bX3.size)
        have hpx := hox.toSl pstS
        obtain ⟨Ax, nx, cx, rfl, hnx⟩ := own_form pstS hox
        by_cases he : buildE c0 s = 0
        · have he2 : (buildE c0 s != 0) = false := by simp [he]
          have HE0 := Lib.hid he
          have hb24 := hb3.trans (hb4.mono hb3.size)
          have y0 := (hb24.cell (p := ⟨b, off, none⟩) hbw).trans g0
          have y1 := (hb24.cell (p := ⟨b, off + 1, none⟩) hbw).trans g1
          have y2 := (hb24.cell (p := ⟨b, off + 2, none⟩) hbw).trans g2
          have hbw4 := Nat.lt_of_lt_of_le hbw hb24.size
          obtain ⟨A1, k1, rfl, -⟩ := id hr0.langs
          obtain ⟨A2, k2, rfl, -⟩ := id hr0.labels
          obtain ⟨A3, k3, rfl, -⟩ := id hr0.sheets
          go_wp2
          have hlw := bX4.size
          go_loopw [5, 54] (fun sx i wr => ∃ (k : Nat) (la : Cat) (l1 l2 l3 vx : Value), k ≤ cs.length ∧ i = .int .i64 k ∧ sx = vx ∧ Hid (buildE la s = 0) ∧ FewOk la ∧ wr.heap[w4.heap.size]? = some (catC l1 l2 l3) ∧ CatRep wr B la l1 l2 l3 ∧ SlRep 4 (flat Post.enc) wr (fun b => b < wr.heap.size ∧ b ≠ w4.heap.size) (buildF la s) vx ∧ Below w.heap.size w wr) (fun _ i _ => cs.length - (intOf i).toNat)
          case atStart =>
            have b5 := (Below.refl w4.heap.size w4).alloc (Nat.le_refl _) (catC (.slice A1 c0.langs.length k1) (.slice A2 c0.labels.length k2) (.slice A3 c0.sheets.length k3))
            exact ⟨0, c0, _, _, _, _, Nat.zero_le _, rfl, rfl, HE0, hF0, heap_newL w4 _, (hr0.below ((hb24.trans (b5.mono hb24.size)).mono (Nat.le_trans hB bX.size))), (hpx.below pstS b5).monoF pstS (fun b' (hb' : b' < w4.heap.size) => ⟨by simp; omega, by omega⟩), bX4.trans (b5.mono hlw)⟩
          case round =>
            clear y0 y1 y2 hbw4 hb24 hpx hox hb3 hb4 hra g0 g1 g2 hbw hr0 H0P
            obtain ⟨k, la, l1, l2, l3, vx, hk, rfl, hv', HLE, hLF, hlb, hlr, hxr, bR⟩ := hrel
            subst hv'
            have hsR := bR.size
            have hlbl := heap_ltQ hlb
            by_cases hlt : k < cs.length
            · obtain ⟨xc, hx⟩ := get_at cs hlt
              have hFx := hF xc (List.mem_of_getElem? hx)
              obtain ⟨b', off', u1, u2, u3, e9, hbB', g0, g1, g2, hur⟩ := HCT.out k xc hx _ bR
              injection e9 with e9; injection e9 with e9 e10; subst e9 e10
              have hbw : b < wr.heap.size := by have : b < B := hbB'; omega
              have hki : (k : Int) < (cs.length : Int) := by omega
              obtain ⟨A1, k1, rfl, -⟩ := id hur.langs
              obtain ⟨A2, k2, rfl, -⟩ := id hur.labels
              obtain ⟨A3, k3, rfl, -⟩ := id hur.sheets
              obtain ⟨C1, d1, rfl, -⟩ := id hlr.langs
              obtain ⟨C2, d2, rfl, -⟩ := id hlr.labels
              obtain ⟨C3, d3, rfl, -⟩ := id hlr.sheets
              obtain ⟨Ax, cx, rfl, -⟩ := id hxr
              have hlc : wr.cell? ⟨w4.heap.size, 0, none⟩ = some (.slice C1 la.langs.length d1) ∧ wr.cell? ⟨w4.heap.size, 1, none⟩ = some (.slice C2 la.labels.length d2) ∧ wr.cell? ⟨w4.heap.size, 2, none⟩ = some (.slice C3 la.sheets.length d3) := ⟨by rw [Lib.cell_of_heap hlb]; rfl, by rw [Lib.cell_of_heap hlb]; rfl, by rw [Lib.cell_of_heap hlb]; rfl⟩
              have b6 : Below wr.heap.size wr (wr.alloc (catC (.slice A1 xc.langs.length k1) (.slice A2 xc.labels.length k2) (.slice A3 xc.sheets.length k3))) := (Below.refl _ _).alloc (Nat.le_refl _) _
              have hb6 : Below (wr.heap.size + 1) (wr.alloc (catC (.slice A1 xc.langs.length k1) (.slice A2 xc.labels.length k2) (.slice A3 xc.sheets.length k3))) (wr.alloc (catC (.slice A1 xc.langs.length k1) (.slice A2 xc.labels.length k2) (.slice A3 xc.sheets.length k3))) := Below.refl _ _
              have KC := Lib.hid (fun (W : World) (hW : Below (wr.heap.size + 1) (wr.alloc (catC (.slice A1 xc.langs.length k1) (.slice A2 xc.labels.length k2) (.slice A3 xc.sheets.length k3))) W) => catW_at hW)
              have KL := Lib.hid (fun (W : World) (hW : Below wr.heap.size wr W) => (⟨(hW.cell (p := ⟨w4.heap.size, 0, none⟩) hlbl).trans hlc.1, (hW.cell (p := ⟨w4.heap.size, 1, none⟩) hlbl).trans hlc.2.1, (hW.cell (p := ⟨w4.heap.size, 2, none⟩) hlbl).trans hlc.2.2, Nat.lt_of_lt_of_le hlbl hW.size⟩ : W.cell? ⟨w4.heap.size, 0, none⟩ = some (.slice C1 la.langs.length d1) ∧ W.cell? ⟨w4.heap.size, 1, none⟩ = some (.slice C2 la.labels.length d2) ∧ W.cell? ⟨w4.heap.size, 2, none⟩ = some (.slice C3 la.sheets.length d3) ∧ w4.heap.size < W.heap.size))
              have HXC := Lib.hid (fun (W : World) (hW : Below wr.heap.size wr W) => HCP.out xc _ _ _ W (bR.trans (hW.mono hsR)) (hur.below (hW.mono (Nat.le_trans hB hsR))) hFx)
              have HLC := Lib.hid (fun (W : World) (hW : Below wr.heap.size wr W) => HCP.out la _ _ _ W (bR.trans (hW.mono hsR)) (hlr.below (hW.mono (Nat.le_trans hB hsR))) hLF)
              obtain ⟨hbl1, hbl2⟩ := chk_words (build_right HLE.out)
              have HCX := Lib.hid (fun (W : World) (hW : Below wr.heap.size wr W) => clonePosts_c (buildF la s) (.slice Ax (buildF la s).length cx) W W.heap.size (Nat.le_refl _) (((hxr.monoF pstS (fun b' hb' => hb'.1) : Posts wr wr.heap.size (buildF la s) (.slice Ax (buildF la s).length cx)).below pstS hW).mono pstS hW.size) (by omega))
              have hUP := scratch_upd (b := xc) HLE.out
              have HUP := Lib.hid (fun (vl a1 a2 a3 b1 b2 b3 : Value) (W : World) (h1 : Posts W W.heap.size (buildF la s) vl) (h2 : CatRep W W.heap.size la a1 a2 a3) (h3 : CatRep W W.heap.size xc b1 b2 b3) => show Calls Try.prog 10 #[vl, .agg #[a1, a2, a3], .agg #[b1, b2, b3], .string s] W fun e w' => ∃ v u, e = .returned (.tuple #[v, u, .int .i64 (buildE xc s)]) ∧ OwnRep 4 (flat Post.enc) 40 W.heap.size w' (buildF xc s) v ∧ OwnRep 1 (flat intEnc) 3 W.heap.size w' (updU (buildF la s) la xc s) u ∧ Below W.heap.size W w' by
                have := update_c (buildF la s) la xc s vl a1 a2 a3 b1 b2 b3 W W.heap.size (Nat.le_refl _) h1 h2 h3 hbl2 (by omega)
                rwa [hUP.1, hUP.2] at this)
              generalize updU (buildF la s) la xc s = uu at *
              clear hUP hbl1 hbl2 hx hlc
              go_wp2_with fail
              refine (HXC.out _ b6).mono ?_
              rintro e w5 ⟨a1, a2, a3, rfl, hra, -, hb5⟩
              have bX := bnd_call hb6 (by simp) hb5
              obtain ⟨z0, z1, z2, zl⟩ := KC.out _ bX
              go_wp2_with fail
              refine (HBD.out xc _ _ _ _ hra).mono ?_
              rintro e w7 ⟨vy, rfl, hoy, hb7⟩
              have bX := bnd_call bX (by simp) hb7
              have hyp := Lib.hid (hoy.toSl pstS)
              obtain ⟨Ay, ny, cy, rfl, hny⟩ := own_form pstS hoy
              clear hb5 hra z0 z1 z2 zl hoy
              have bW := b6.trans (bX.mono (Nat.le_succ _))
              obtain ⟨z0, z1, z2, zl⟩ := KC.out _ bX
              obtain ⟨y0, y1, y2, yl⟩ := KL.out _ bW
              have hee : (buildE xc s != buildE xc s) = false := by simp
              have hbY : Below w7.heap.size w7 w7.drew := (Below.refl _ _).drew
              have bs7 := bW.size
              have hlb7 := Nat.lt_of_lt_of_le hlbl bs7
              have KEEP := Lib.hid (fun (W : World) (hW : Below w7.heap.size w7 W) => (⟨(hW.cell (p := ⟨w4.heap.size, 0, none⟩) yl).trans y0, (hW.cell (p := ⟨w4.heap.size, 1, none⟩) yl).trans y1, (hW.cell (p := ⟨w4.heap.size, 2, none⟩) yl).trans y2, (hW.cell (p := ⟨wr.heap.size, 0, none⟩) zl).trans z0, (hW.cell (p := ⟨wr.heap.size, 1, none⟩) zl).trans z1, (hW.cell (p := ⟨wr.heap.size, 2, none⟩) zl).trans z2⟩ : W.cell? ⟨w4.heap.size, 0, none⟩ = some (.slice C1 la.langs.length d1) ∧ W.cell? ⟨w4.heap.size, 1, none⟩ = some (.slice C2 la.labels.length d2) ∧ W.cell? ⟨w4.heap.size, 2, none⟩ = some (.slice C3 la.sheets.length d3) ∧ W.cell? ⟨wr.heap.size, 0, none⟩ = some (.slice A1 xc.langs.length k1) ∧ W.cell? ⟨wr.heap.size, 1, none⟩ = some (.slice A2 xc.labels.length k2) ∧ W.cell? ⟨wr.heap.size, 2, none⟩ = some (.slice A3 xc.sheets.length k3)))
              go_wp2
              clear z0 z1 z2 y0 y1 y2
              go_region_held3 (fun W => W.cell? ⟨w4.heap.size, 0, none⟩ = some (.slice C1 la.langs.length d1) ∧ W.cell? ⟨w4.heap.size, 1, none⟩ = some (.slice C2 la.labels.length d2) ∧ W.cell? ⟨w4.heap.size, 2, none⟩ = some (.slice C3 la.sheets.length d3) ∧ W.cell? ⟨wr.heap.size, 0, none⟩ = some (.slice A1 xc.langs.length k1) ∧ W.cell? ⟨wr.heap.size, 1, none⟩ = some (.slice A2 xc.labels.length k2) ∧ W.cell? ⟨wr.heap.size, 2, none⟩ = some (.slice A3 xc.sheets.length k3)) (with_reducible exact KEEP.out _ hbY) (first
                | (go_at_call 11; (with_reducible refine (HCX.out _ (bW.trans (hbY.mono bs7))).mono ?_); rintro e w8 ⟨vc, rfl, hoc, hb8⟩; have hbY := bnd_call hbY (Nat.le_refl _) hb8; have hcp := hoc.toSl pstS)
                | (go_at_call 9; (with_reducible refine (HLC.out _ (bW.trans (hbY.mono bs7))).mono ?_); rintro e w9 ⟨e1, e2, e3, rfl, hre, -, hb9⟩; have hbY := bnd_call hbY (Nat.le_refl _) hb9; have hcp := (hcp.below pstS hb9).mono pstS hb9.size)
                | (go_at_call 9; (with_reducible refine (HXC.out _ (bW.trans (hbY.mono bs7))).mono ?_); rintro e w10 ⟨f1, f2, f3, rfl, hrf, -, hb10⟩; have hbY := bnd_call hbY (Nat.le_refl _) hb10; have hcp := (hcp.below pstS hb10).mono pstS hb10.size; have hre := (hre.below hb10).mono hb10.size)
                | (go_at_call 10; have hbz := Nat.lt_of_lt_of_le hlb7 hbY.size; (with_reducible refine (HUP.out _ _ _ _ _ _ _ _ hcp hre hrf).mono ?_); rintro e w11 ⟨vn, vu, rfl, hon, -, hb11⟩; have hbY := bnd_call hbY (Nat.le_refl _) hb11))
              have bX := bX.trans (hbY.mono (by have := bX.size; simp at this; exact this))
              have hnp := hon.toSl pstS
              have HNO := Lib.hid (hon.toFlat pstS)
              have hyn := (hyp.out.below pstS hbY).mono pstS hbY.size
              have hnl := hon.own_lt
              obtain ⟨An, nn, cn, rfl, hnn⟩ := own_form pstS hon
              clear zl yl
              have bW := b6.trans (bX.mono (Nat.le_succ _))
              obtain ⟨z0, z1, z2, zl⟩ := KC.out _ bX
              obtain ⟨y0, y1, y2, yl⟩ := KL.out _ bW
              by_cases heb : buildE xc s = 0
              · have HXE := Lib.hid heb
                have hne : (buildE xc s != 0) = false := by simp [heb]
                obtain ⟨hbx1, hbx2⟩ := chk_words (build_right heb)
                have HSM := Lib.hid (show Calls Try.prog 12 #[.slice An nn cn, .slice Ay ny cy] w11 fun e w' => e = .returned (.bool true) ∧ Below w11.heap.size w11 w' by
                  have := rsame5_c (buildF xc s) (buildF xc s) (.slice An nn cn) (.slice Ay ny cy) w11 w11.heap.size (Nat.le_refl _) hnp hyn
                  rwa [eqPost_refl] at this)
                have HCK := Lib.hid (fun (W : World) (hW : Below w11.heap.size w11 W) => show Calls Try.prog 13 #[.slice An nn cn] W fun e w' => e = .returned (.int .i64 0) ∧ Below W.heap.size W w' by
                  have := icheck_c (buildF xc s) (.slice An nn cn) W W.heap.size (Nat.le_refl _) ((hnp.below pstS hW).mono pstS hW.size) hbx2
                  rwa [build_right heb] at this)
                clear heb hbx1 hbx2
                go_wp2_with fail
                refine HSM.out.mono ?_
                rintro e w12 ⟨rfl, hb12⟩
                have bX := bnd_call bX (by simp) hb12
                go_wp2_with fail
                refine (HCK.out _ hb12).mono ?_
                rintro e w13 ⟨rfl, hb13⟩
                have bX := bnd_call bX (by simp) hb13
                clear z0 z1 z2 zl y0 y1 y2 yl
                have bW := b6.trans (bX.mono (Nat.le_succ _))
                obtain ⟨z0, z1, z2, zl⟩ := KC.out _ bX
                obtain ⟨y0, y1, y2, yl⟩ := KL.out _ bW
                go_wp2
                go_still_tail 3, (by kernel_rfl)
                change wpList _ _ _ _ _ w13.drew
                have bd : Below w13.heap.size w13 w13.drew := (Below.refl _ _).drew
                have bdW := bW.trans (bd.mono bW.size)
                have hld := (bdW.block _ hlbl).trans hlb
                have bd11 := hb12.trans ((hb13.trans (bd.mono hb13.size)).mono hb12.size)
                generalize w13.drew = wd at *
                clear z0 z1 z2 zl y0 y1 y2 yl
                obtain ⟨y0, y1, y2, yl⟩ := KL.out _ bdW
                have hfr : ∀ b', (Value.slice An nn cn).ownBlock = some b' → (set3 wd w4.heap.size (.slice A1 xc.langs.length k1) (.slice A2 xc.labels.length k2) (.slice A3 xc.sheets.length k3)).heap[b']? = w11.heap[b']? := fun b' hb' => (set3_ne (by have := (hnl b' hb').1; omega)).trans (bd11.block b' (hnl b' hb').2)
                have hxn := (HNO.out.frame pstS hfr).monoF pstS (fun b' hb' => (⟨by rw [set3_size]; exact Nat.lt_of_lt_of_le (hnl b' hb').2 bd11.size, by have := (hnl b' hb').1; omega⟩ : b' < (set3 wd w4.heap.size (.slice A1 xc.langs.length k1) (.slice A2 xc.labels.length k2) (.slice A3 xc.sheets.length k3)).heap.size ∧ b' ≠ w4.heap.size))
                have f0 := Lib.frozen_of_heap hld 0
                have hl1 := set1_at (v1 := .slice A1 xc.langs.length k1) hld
                have f1 := Lib.frozen_of_heap hl1 1
                have q1 : (wd.setCell ⟨w4.heap.size, 0, none⟩ (.slice A1 xc.langs.length k1)).cell? ⟨w4.heap.size, 1, none⟩ = some (.slice C2 la.labels.length d2) := by rw [Lib.cell_of_heap hl1]; rfl
                have hl2 := set2_at (v2 := .slice A2 xc.labels.length k2) hl1
                have f2 := Lib.frozen_of_heap hl2 2
                have q2 : ((wd.setCell ⟨w4.heap.size, 0, none⟩ (.slice A1 xc.langs.length k1)).setCell ⟨w4.heap.size, 1, none⟩ (.slice A2 xc.labels.length k2)).cell? ⟨w4.heap.size, 2, none⟩ = some (.slice C3 la.sheets.length d3) := by rw [Lib.cell_of_heap hl2]; rfl
                go_wp2
                go_roundw
                case rel => exact ⟨k + 1, xc, _, _, _, _, by omega, by go_num, rfl, HXE, hFx, set3_at hld, hur.below (set3_below (bdW.mono (Nat.le_trans hB hsR)) (Nat.le_trans hB hlw)), hxn, set3_below (bR.trans (bdW.mono hsR)) hlw⟩
                case measure => simp [intOf]; omega
              · have hne : (buildE xc s != 0) = true := by simpa using heb
                clear heb
                go_wp2
                go_roundw
                case rel => exact ⟨k + 1, la, _, _, _, _, by omega, by go_num, rfl, HLE, hLF, (bW.block _ hlbl).trans hlb, hlr.below (bW.mono (Nat.le_trans hB hsR)), (hxr.frame pstS (fun b' hb' => bW.block b' hb'.1)).monoF pstS (fun b' hb' => ⟨Nat.lt_of_lt_of_le hb'.1 bW.size, hb'.2⟩), bR.trans (bW.mono hsR)⟩
                case measure => simp [intOf]; omega
            · have hki : ¬ (k : Int) < (cs.length : Int) := by omega
              go_wp2
              go_ret
              exact ⟨rfl, bR⟩
        · have he2 : (buildE c0 s != 0) = true := by simpa using he
          have hnil : nx = 0 := by rw [hnx.out, build_none he]; rfl
          subst hnil
          clear he
          go_wp2
          go_ret
          exact ⟨rfl, bX4⟩
end Go.Proofs.Ytpfngehledgkiaa
