/- InvertBuilds returns true. -/
import Derived.Test.YtpfngehledgkiaaGreatAwI
import Derived.Test.YtpfngehledgkiaaGreatRfG
import Derived.Test.YtpfngehledgkiaaGreatRqG
import Derived.Test.YtpfngehledgkiaaGreatFwI
import Derived.Test.YtpfngehledgkiaaGreatLbQ
namespace Go.Proofs.YtpfngehledgkiaaGreat
open Go.RowKit

theorem cat_one {w : World} {B : Nat} {c : Cat} {v1 v2 v3 : Value} (hB : B ≤ w.heap.size) (h : CatRep w B c v1 v2 v3) {W : World} {g : Nat} (hb : Below w.heap.size w W) (hg : W.heap[g]? = some (.cells #[v1, v2, v3] 26)) : SlRep 3 catR W (fun b => b < W.heap.size) [c] (.slice (some ⟨g, 0, none⟩) 1 1) := by
  have h2 := (h.below (hb.mono hB)).mono (Nat.le_trans hB hb.size)
  refine sl_at (css := [[v1, v2, v3]]) (t := 26) catS rfl hg (fun i x cs hx hcs => ?_) (heap_ltQ hg) rfl (by simp)
  match i, hx, hcs with
  | 0, hx, hcs =>
    simp at hx hcs
    subst hx hcs
    exact ⟨v1, v2, v3, rfl, h2.langs, h2.labels, h2.sheets⟩
set_option maxRecDepth 100000 in
set_option maxHeartbeats 8000000 in
theorem builds_law (c : Cat) (s : ByteArray) (u : Int) (v1 v2 v3 : Value) (w : World) (B : Nat) (hB : B ≤ w.heap.size) (h : CatRep w B c v1 v2 v3) :
    Calls Tryz.prog 3 #[.agg #[v1, v2, v3], .string s, .int .i64 u] w fun e w' => e = .returned (.bool true) ∧ Below w.heap.size w w' := by
  have HA := Lib.hid (fun (W : World) => awake5_c W)
  have HFW := Lib.hid (fun (v : Value) (W : World) (hv : SlRep 3 catR W (fun b => b < W.heap.size) [c] v) => few5_c [c] v W W.heap.size (Nat.le_refl _) hv)
  have HCP := Lib.hid (fun (hF : FewOk c) (W : World) (hW : Below w.heap.size w W) => rcopy_c c v1 v2 v3 W B (Nat.le_trans hB hW.size) (h.below (hW.mono hB)) hF)
  have HB := Lib.hid (fun (a1 a2 a3 : Value) (W : World) (hr : CatRep W W.heap.size c a1 a2 a3) => iBuild_c c s a1 a2 a3 W W.heap.size (Nat.le_refl _) hr)
  have HRB := Lib.hid (fun (h1 : c.sheets.length ≤ 1000) (h2 : c.langs.length ≤ 1000) (W : World) (hW : Below w.heap.size w W) => rBuild5_c c s v1 v2 v3 W B (Nat.le_trans hB hW.size) (h.below (hW.mono hB)) h1 h2)
  have HO := Lib.hid (fun (a1 a2 a3 : Value) (W : World) (hr : CatRep W W.heap.size c a1 a2 a3) => iOf_c c s u a1 a2 a3 W W.heap.size (Nat.le_refl _) hr)
  have HRO := Lib.hid (fun (h1 : c.sheets.length ≤ 1000) (h2 : c.langs.length ≤ 1000) (W : World) (hW : Below w.heap.size w W) => rOf5_c c s u v1 v2 v3 W B (Nat.le_trans hB hW.size) (h.below (hW.mono hB)) h1 h2)
  have HSA := Lib.hid (fun (xs : List Post) (v v' : Value) (W : World) (hv : Posts W W.heap.size xs v) (hv' : Posts W W.heap.size xs v') => show Calls Tryz.prog 12 #[v, v'] W fun e w' => e = .returned (.bool true) ∧ Below W.heap.size W w' by
    have := rsame5_c xs xs v v' W W.heap.size (Nat.le_refl _) hv hv'
    rwa [eqPost_refl] at this)
  have b0 : Below w.heap.size w (w.alloc (catC v1 v2 v3)) := (Below.refl _ _).alloc (Nat.le_refl _) _
  have hb0 : Below (w.heap.size + 1) (w.alloc (catC v1 v2 v3)) (w.alloc (catC v1 v2 v3)) := Below.refl _ _
  have KC := Lib.hid (fun (W : World) (hW : Below (w.heap.size + 1) (w.alloc (catC v1 v2 v3)) W) => catW_at hW)
  have HONE := Lib.hid (fun (W : World) (hW : Below w.heap.size w W) => cat_one hB h (W := W.alloc (catC v1 v2 v3)) (g := W.heap.size) (hW.alloc hW.size _) (heap_newL W _))
  obtain ⟨A1, c1, rfl, -⟩ := id h.langs
  obtain ⟨A2, c2, rfl, -⟩ := id h.labels
  obtain ⟨A3, c3, rfl, -⟩ := id h.sheets
  by_cases hl : 10 < s.size
  · have hl' : (10 : Int) < (s.size : Int) := by omega
    go_enter Tryz.func3, Tryz.ntmps3
    go_wp2_with fail
    refine (HA.out _).mono ?_
    rintro e w1 ⟨rfl, b1⟩
    have bX := bnd_call hb0 (by simp) b1
    have bW := b0.trans (bX.mono (Nat.le_succ _))
    obtain ⟨z0, z1, z2, zl⟩ := KC.out _ bX
    go_wp2_with fail
    refine (HFW.out _ _ (HONE.out _ bW)).mono ?_
    rintro e w2 ⟨⟨b, rfl, -⟩, hb2⟩
    cases b
    all_goals
      go_wp2
      go_ret
      exact ⟨rfl, (bW.alloc bW.size _).trans (hb2.mono (by have := bW.size; simp; omega))⟩
  · have hl' : ¬ (10 : Int) < (s.size : Int) := by omega
    go_enter Tryz.func3, Tryz.ntmps3
    go_wp2_with fail
    refine (HA.out _).mono ?_
    rintro e w1 ⟨rfl, b1⟩
    have bX := bnd_call hb0 (by simp) b1
    have bW := b0.trans (bX.mono (Nat.le_succ _))
    obtain ⟨z0, z1, z2, zl⟩ := KC.out _ bX
    go_wp2_with fail
    refine (HFW.out _ _ (HONE.out _ bW)).mono ?_
    rintro e w2 ⟨⟨b, rfl, hfew⟩, hb2⟩
    cases b
    · go_wp2
      go_ret
      exact ⟨rfl, (bW.alloc bW.size _).trans (hb2.mono (by have := bW.size; simp; omega))⟩
    · have hF := hfew rfl c (by simp)
      have bX := (bX.alloc (by have := bX.size; simp at this; exact this) (catC (.slice A1 c.langs.length c1) (.slice A2 c.labels.length c2) (.slice A3 c.sheets.length c3))).trans (hb2.mono (by have := bX.size; simp at this; simp; omega))
      have hs1 : c.sheets.length ≤ 1000 := by have := hF.sheets; omega
      have hs2 : c.langs.length ≤ 1000 := by have := hF.langs; omega
      clear hfew b1 hb2 z0 z1 z2 zl bW
      have bW := b0.trans (bX.mono (Nat.le_succ _))
      obtain ⟨z0, z1, z2, zl⟩ := KC.out _ bX
      have hee : (buildE c s == buildE c s) = true := by simp
      go_wp2_with fail
      refine (HCP.out hF _ bW).mono ?_
      rintro e w3 ⟨a1, a2, a3, rfl, hra, -, hb3⟩
      have bX := bnd_call bX (by simp) hb3
      go_wp2_with fail
      refine (HB.out _ _ _ _ hra).mono ?_
      rintro e w4 ⟨vl, rfl, hol, hb4⟩
      have bX := bnd_call bX (by simp) hb4
      have hlp := hol.toSl pstS
      obtain ⟨Al, nl, cl, rfl, hnl⟩ := own_form pstS hol
      clear z0 z1 z2 zl bW hb3 hb4 hra hol
      have bW := b0.trans (bX.mono (Nat.le_succ _))
      obtain ⟨z0, z1, z2, zl⟩ := KC.out _ bX
      go_wp2_with fail
      refine (HRB.out hs1 hs2 _ bW).mono ?_
      rintro e w5 ⟨vm, rfl, hmp, hb5⟩
      have bX := bnd_call bX (by simp) hb5
      have hlp := (hlp.below pstS hb5).mono pstS hb5.size
      obtain ⟨Am, cm, rfl, -⟩ := id hmp
      clear z0 z1 z2 zl bW hb5
      have bW := b0.trans (bX.mono (Nat.le_succ _))
      obtain ⟨z0, z1, z2, zl⟩ := KC.out _ bX
      have HS1 := Lib.hid (fun (W : World) (hW : Below w5.heap.size w5 W) => HSA.out _ _ _ W ((hlp.below pstS hW).mono pstS hW.size) ((hmp.below pstS hW).mono pstS hW.size))
      have hbY : Below w5.heap.size w5 w5.drew := (Below.refl _ _).drew
      have bs := bW.size
      have KEEP := Lib.hid (fun (W : World) (hW : Below w5.heap.size w5 W) => (⟨(hW.cell (p := ⟨w.heap.size, 0, none⟩) zl).trans z0, (hW.cell (p := ⟨w.heap.size, 1, none⟩) zl).trans z1, (hW.cell (p := ⟨w.heap.size, 2, none⟩) zl).trans z2⟩ : W.cell? ⟨w.heap.size, 0, none⟩ = some (.slice A1 c.langs.length c1) ∧ W.cell? ⟨w.heap.size, 1, none⟩ = some (.slice A2 c.labels.length c2) ∧ W.cell? ⟨w.heap.size, 2, none⟩ = some (.slice A3 c.sheets.length c3)))
      go_wp2
      clear z0 z1 z2 hlp hmp
      go_region_held3 (fun W => W.cell? ⟨w.heap.size, 0, none⟩ = some (.slice A1 c.langs.length c1) ∧ W.cell? ⟨w.heap.size, 1, none⟩ = some (.slice A2 c.labels.length c2) ∧ W.cell? ⟨w.heap.size, 2, none⟩ = some (.slice A3 c.sheets.length c3)) (with_reducible exact KEEP.out _ hbY) (first
        | (go_at_call 12; (with_reducible refine (HS1.out _ hbY).mono ?_); rintro e w6 ⟨rfl, hb6⟩; have hbY := bnd_call hbY (Nat.le_refl _) hb6)
        | (go_at_call 10; (with_reducible refine (HCP.out hF _ (bW.trans (hbY.mono bs))).mono ?_); rintro e w7 ⟨e1, e2, e3, rfl, hre, -, hb7⟩; have hbY := bnd_call hbY (Nat.le_refl _) hb7)
        | (go_at_call 13; (with_reducible refine (HO.out _ _ _ _ hre).mono ?_); rintro e w8 ⟨vo, rfl, hoo, hb8⟩; have hbY := bnd_call hbY (Nat.le_refl _) hb8; have hop := hoo.toSl pstS)
        | (go_at_call 14; (with_reducible refine (HRO.out hs1 hs2 _ (bW.trans (hbY.mono bs))).mono ?_); rintro e w9 ⟨vr, rfl, hrp, hb9⟩; have hbY := bnd_call hbY (Nat.le_refl _) hb9; have hop := (hop.below pstS hb9).mono pstS hb9.size)
        | (go_at_call 12; (with_reducible refine (HSA.out _ _ _ _ hop hrp).mono ?_); rintro e w10 ⟨rfl, hb10⟩; have hbY := bnd_call hbY (Nat.le_refl _) hb10))
      go_wp2
      go_ret
      exact ⟨rfl, bW.trans (hbY.mono bs)⟩
end Go.Proofs.YtpfngehledgkiaaGreat
