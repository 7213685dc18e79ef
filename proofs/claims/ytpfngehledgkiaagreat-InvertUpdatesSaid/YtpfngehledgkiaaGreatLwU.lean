/- InvertUpdates returns true. -/
import Derived.Test.YtpfngehledgkiaaGreatAwI
import Derived.Test.YtpfngehledgkiaaGreatRfG
import Derived.Test.YtpfngehledgkiaaGreatRqH
import Derived.Test.YtpfngehledgkiaaGreatFwI
namespace Go.Proofs.YtpfngehledgkiaaGreat
open Go.RowKit

theorem cat_two {w : World} {B : Nat} {a b : Cat} {a1 a2 a3 b1 b2 b3 : Value} (hB : B ≤ w.heap.size) (ha : CatRep w B a a1 a2 a3) (hb : CatRep w B b b1 b2 b3) {W : World} {g : Nat} (hW : Below w.heap.size w W) (hg : W.heap[g]? = some (.cells #[a1, a2, a3, b1, b2, b3] 26)) : SlRep 3 catR W (fun b => b < W.heap.size) [a, b] (.slice (some ⟨g, 0, none⟩) 2 2) := by
  have h1 := (ha.below (hW.mono hB)).mono (Nat.le_trans hB hW.size)
  have h2 := (hb.below (hW.mono hB)).mono (Nat.le_trans hB hW.size)
  refine sl_at (css := [[a1, a2, a3], [b1, b2, b3]]) (t := 26) catS rfl hg (fun i x cs hx hcs => ?_) (heap_ltQ hg) rfl (by simp)
  match i, hx, hcs with
  | 0, hx, hcs =>
    simp at hx hcs
    subst hx hcs
    exact ⟨a1, a2, a3, rfl, h1.langs, h1.labels, h1.sheets⟩
  | 1, hx, hcs =>
    simp at hx hcs
    subst hx hcs
    exact ⟨b1, b2, b3, rfl, h2.langs, h2.labels, h2.sheets⟩
set_option maxRecDepth 100000 in
set_option maxHeartbeats 8000000 in
theorem updates_law (l : List Post) (a b : Cat) (s : ByteArray) (vl a1 a2 a3 b1 b2 b3 : Value) (w : World) (B : Nat) (hB : B ≤ w.heap.size) (hl : Posts w B l vl) (ha : CatRep w B a a1 a2 a3) (hb : CatRep w B b b1 b2 b3) :
    Calls Tryz.prog 4 #[vl, .agg #[a1, a2, a3], .agg #[b1, b2, b3], .string s] w fun e w' => e = .returned (.bool true) ∧ Below w.heap.size w w' := by
  have HA := Lib.hid (fun (W : World) => awake5_c W)
  have HFP := Lib.hid (fun (W : World) (hW : Below w.heap.size w W) => rfew5_c l vl W B (hl.below pstS (hW.mono hB)))
  have HFW := Lib.hid (fun (v : Value) (W : World) (hv : SlRep 3 catR W (fun b => b < W.heap.size) [a, b] v) => few5_c [a, b] v W W.heap.size (Nat.le_refl _) hv)
  have HCA := Lib.hid (fun (hF : FewOk a) (W : World) (hW : Below w.heap.size w W) => rcopy_c a a1 a2 a3 W B (Nat.le_trans hB hW.size) (ha.below (hW.mono hB)) hF)
  have HCB := Lib.hid (fun (hF : FewOk b) (W : World) (hW : Below w.heap.size w W) => rcopy_c b b1 b2 b3 W B (Nat.le_trans hB hW.size) (hb.below (hW.mono hB)) hF)
  have HSA := Lib.hid (fun (xs : List Post) (v v' : Value) (W : World) (hv : Posts W W.heap.size xs v) (hv' : Posts W W.heap.size xs v') => show Calls Tryz.prog 12 #[v, v'] W fun e w' => e = .returned (.bool true) ∧ Below W.heap.size W w' by
    have := rsame5_c xs xs v v' W W.heap.size (Nat.le_refl _) hv hv'
    rwa [eqPost_refl] at this)
  have b0 : Below w.heap.size w ((w.alloc (catC a1 a2 a3)).alloc (catC b1 b2 b3)) := ((Below.refl _ _).alloc (Nat.le_refl _) _).alloc (by simp) _
  have hb0 : Below (w.heap.size + 2) ((w.alloc (catC a1 a2 a3)).alloc (catC b1 b2 b3)) ((w.alloc (catC a1 a2 a3)).alloc (catC b1 b2 b3)) := Below.refl _ _
  have KC := Lib.hid (fun (W : World) (hW : Below (w.heap.size + 2) ((w.alloc (catC a1 a2 a3)).alloc (catC b1 b2 b3)) W) => catW2_at hW)
  have HTWO := Lib.hid (fun (W : World) (hW : Below w.heap.size w W) => cat_two hB ha hb (W := W.alloc (.cells #[a1, a2, a3, b1, b2, b3] 26)) (g := W.heap.size) (hW.alloc hW.size _) (heap_newL W _))
  obtain ⟨El, Cl, rfl, -⟩ := id hl
  obtain ⟨A1, ca1, rfl, -⟩ := id ha.langs
  obtain ⟨A2, ca2, rfl, -⟩ := id ha.labels
  obtain ⟨A3, ca3, rfl, -⟩ := id ha.sheets
  obtain ⟨B1, cb1, rfl, -⟩ := id hb.langs
  obtain ⟨B2, cb2, rfl, -⟩ := id hb.labels
  obtain ⟨B3, cb3, rfl, -⟩ := id hb.sheets
  cases hf1 : fewP l
  · rw [hf1] at HFP
    go_enter Tryz.func4, Tryz.ntmps4
    go_wp2_with fail
    refine (HA.out _).mono ?_
    rintro e w1 ⟨rfl, b1⟩
    have bX := bnd_call hb0 (by simp) b1
    have bW := b0.trans (bX.mono (Nat.le_add_right _ 2))
    go_wp2_with fail
    refine (HFP.out _ bW).mono ?_
    rintro e w2 ⟨rfl, rfl⟩
    go_wp2
    go_ret
    exact ⟨rfl, bW⟩
  · obtain ⟨hn, hs⟩ := fewP_iff.1 hf1
    rw [hf1] at HFP
    have hs6 : ∀ p ∈ l, p.word.size ≤ 1000000 := fun p hp => by have := hs p hp; omega
    clear hf1
    by_cases hsz : 10 < s.size
    · have hl' : (10 : Int) < (s.size : Int) := by omega
      go_enter Tryz.func4, Tryz.ntmps4
      go_wp2_with fail
      refine (HA.out _).mono ?_
      rintro e w1 ⟨rfl, b1⟩
      have bX := bnd_call hb0 (by simp) b1
      have bW := b0.trans (bX.mono (Nat.le_add_right _ 2))
      obtain ⟨z0, z1, z2, z3, z4, z5, zl⟩ := KC.out _ bX
      have zl0 := Nat.lt_of_succ_lt zl
      go_wp2_with fail
      refine (HFP.out _ bW).mono ?_
      rintro e w2 ⟨rfl, rfl⟩
      go_wp2_with fail
      refine (HFW.out _ _ (HTWO.out _ bW)).mono ?_
      rintro e w2 ⟨⟨b, rfl, -⟩, hb2⟩
      cases b
      all_goals
        go_wp2
        go_ret
        exact ⟨rfl, (bW.alloc bW.size _).trans (hb2.mono (by have := bW.size; simp; omega))⟩
    · have hl' : ¬ (10 : Int) < (s.size : Int) := by omega
      go_enter Tryz.func4, Tryz.ntmps4
      go_wp2_with fail
      refine (HA.out _).mono ?_
      rintro e w1 ⟨rfl, b1⟩
      have bX := bnd_call hb0 (by simp) b1
      have bW := b0.trans (bX.mono (Nat.le_add_right _ 2))
      obtain ⟨z0, z1, z2, z3, z4, z5, zl⟩ := KC.out _ bX
      have zl0 := Nat.lt_of_succ_lt zl
      go_wp2_with fail
      refine (HFP.out _ bW).mono ?_
      rintro e w2 ⟨rfl, rfl⟩
      go_wp2_with fail
      refine (HFW.out _ _ (HTWO.out _ bW)).mono ?_
      rintro e w3 ⟨⟨b, rfl, hfew⟩, hb2⟩
      cases b
      · go_wp2
        go_ret
        exact ⟨rfl, (bW.alloc bW.size _).trans (hb2.mono (by have := bW.size; simp; omega))⟩
      · have hFa := hfew rfl a (by simp)
        have hFb := hfew rfl b (by simp)
        have bX := (bX.alloc (by have := bX.size; simp at this; omega) (.cells #[.slice A1 a.langs.length ca1, .slice A2 a.labels.length ca2, .slice A3 a.sheets.length ca3, .slice B1 b.langs.length cb1, .slice B2 b.labels.length cb2, .slice B3 b.sheets.length cb3] 26)).trans (hb2.mono (by have := bX.size; simp at this; simp; omega))
        clear hfew b1 hb2 z0 z1 z2 z3 z4 z5 zl zl0 bW
        have bW := b0.trans (bX.mono (Nat.le_add_right _ 2))
        have bs := bW.size
        obtain ⟨z0, z1, z2, z3, z4, z5, zl⟩ := KC.out _ bX
        have zl0 := Nat.lt_of_succ_lt zl
        have hsm : ∀ (c : Cat), FewOk c → catE c = 0 → c.sheets.length ≤ 100 := fun c hF h0 => by
          have h1 := hF.small
          have h2 := (catE_zero h0).2.2.1
          omega
        have hla1 : a.sheets.length ≤ 1000 := by have := hFa.sheets; omega
        have hla2 : a.langs.length ≤ 1000 := by have := hFa.langs; omega
        have hlb1 : b.sheets.length ≤ 1000 := by have := hFb.sheets; omega
        have hlb2 : b.langs.length ≤ 1000 := by have := hFb.langs; omega
        have hee : (updE l a b s == updE l a b s) = true := by simp
        have HCL := Lib.hid (fun (W : World) (hW : Below w.heap.size w W) => clonePosts_c l (.slice El l.length Cl) W B (Nat.le_trans hB hW.size) (hl.below pstS (hW.mono hB)) (by omega))
        have HUP := Lib.hid (fun (v x1 x2 x3 y1 y2 y3 : Value) (W : World) (h1 : Posts W W.heap.size l v) (h2 : CatRep W W.heap.size a x1 x2 x3) (h3 : CatRep W W.heap.size b y1 y2 y3) => update_c l a b s v x1 x2 x3 y1 y2 y3 W W.heap.size (Nat.le_refl _) h1 h2 h3 hs6 (by omega))
        have HRU := Lib.hid (fun (W : World) (hW : Below w.heap.size w W) => rUpdate5_c l a b s (.slice El l.length Cl) _ _ _ _ _ _ W B (Nat.le_trans hB hW.size) (hl.below pstS (hW.mono hB)) (ha.below (hW.mono hB)) (hb.below (hW.mono hB)) hs6 (by omega) hla1 hla2 hlb1 hlb2 (hsm a hFa) (hsm b hFb))
        have HC1 := Lib.hid (HCA.out hFa)
        have HC2 := Lib.hid (HCB.out hFb)
        have KEEP := Lib.hid (fun (W : World) (hW : Below w3.heap.size w3 W) => (⟨(hW.cell (p := ⟨w.heap.size, 0, none⟩) zl0).trans z0, (hW.cell (p := ⟨w.heap.size, 1, none⟩) zl0).trans z1, (hW.cell (p := ⟨w.heap.size, 2, none⟩) zl0).trans z2, (hW.cell (p := ⟨w.heap.size + 1, 0, none⟩) zl).trans z3, (hW.cell (p := ⟨w.heap.size + 1, 1, none⟩) zl).trans z4, (hW.cell (p := ⟨w.heap.size + 1, 2, none⟩) zl).trans z5⟩ : W.cell? ⟨w.heap.size, 0, none⟩ = some (.slice A1 a.langs.length ca1) ∧ W.cell? ⟨w.heap.size, 1, none⟩ = some (.slice A2 a.labels.length ca2) ∧ W.cell? ⟨w.heap.size, 2, none⟩ = some (.slice A3 a.sheets.length ca3) ∧ W.cell? ⟨w.heap.size + 1, 0, none⟩ = some (.slice B1 b.langs.length cb1) ∧ W.cell? ⟨w.heap.size + 1, 1, none⟩ = some (.slice B2 b.labels.length cb2) ∧ W.cell? ⟨w.heap.size + 1, 2, none⟩ = some (.slice B3 b.sheets.length cb3)))
        generalize updL l a b s = ul at *
        generalize updU l a b s = uu at *
        generalize updE l a b s = ue at *
        have hbY : Below w3.heap.size w3 w3.drew := (Below.refl _ _).drew
        clear hn hs hs6 hsm hla1 hla2 hlb1 hlb2 HCA HCB HFW HTWO HFP
        go_wp2
        clear z0 z1 z2 z3 z4 z5
        go_region_held3 (fun W => W.cell? ⟨w.heap.size, 0, none⟩ = some (.slice A1 a.langs.length ca1) ∧ W.cell? ⟨w.heap.size, 1, none⟩ = some (.slice A2 a.labels.length ca2) ∧ W.cell? ⟨w.heap.size, 2, none⟩ = some (.slice A3 a.sheets.length ca3) ∧ W.cell? ⟨w.heap.size + 1, 0, none⟩ = some (.slice B1 b.langs.length cb1) ∧ W.cell? ⟨w.heap.size + 1, 1, none⟩ = some (.slice B2 b.labels.length cb2) ∧ W.cell? ⟨w.heap.size + 1, 2, none⟩ = some (.slice B3 b.sheets.length cb3)) (with_reducible exact KEEP.out _ hbY) (first
          | (go_at_call 17; (with_reducible refine (HCL.out _ (bW.trans (hbY.mono bs))).mono ?_); rintro e w4 ⟨vc, rfl, hoc, hb4⟩; have hbY := bnd_call hbY (Nat.le_refl _) hb4; have hcp := hoc.toSl pstS)
          | (go_at_call 10; (with_reducible refine (HC1.out _ (bW.trans (hbY.mono bs))).mono ?_); rintro e w5 ⟨x1, x2, x3, rfl, hxa, -, hb5⟩; have hbY := bnd_call hbY (Nat.le_refl _) hb5; have hcp := (hcp.below pstS hb5).mono pstS hb5.size)
          | (go_at_call 10; (with_reducible refine (HC2.out _ (bW.trans (hbY.mono bs))).mono ?_); rintro e w6 ⟨y1, y2, y3, rfl, hyb, -, hb6⟩; have hbY := bnd_call hbY (Nat.le_refl _) hb6; have hcp := (hcp.below pstS hb6).mono pstS hb6.size; have hxa := (hxa.below hb6).mono hb6.size)
          | (go_at_call 16; (with_reducible refine (HUP.out _ _ _ _ _ _ _ _ hcp hxa hyb).mono ?_); rintro e w7 ⟨vx, vu, rfl, hox, hou, hb7⟩; have hbY := bnd_call hbY (Nat.le_refl _) hb7))
        have hxp := hox.toSl pstS
        have hup := hou.toSl intS
        obtain ⟨Ax, nx, cx, rfl, hnx⟩ := own_form pstS hox
        obtain ⟨Au, nu, cu, rfl, hnu⟩ := own_form intS hou
        clear hox hou
        obtain ⟨z0, z1, z2, z3, z4, z5⟩ := KEEP.out _ hbY
        have zq := Nat.lt_of_lt_of_le zl hbY.size
        have zq0 := Nat.lt_of_succ_lt zq
        have bW7 := bW.trans (hbY.mono bs)
        have bs7 := bW7.size
        go_wp2_with fail
        refine (HRU.out _ bW7).mono ?_
        rintro e w8 ⟨vy, vv, rfl, hyp, hvp, hb8⟩
        have hxp := (hxp.below pstS hb8).mono pstS hb8.size
        have hup := (hup.below intS hb8).mono intS hb8.size
        have bW8 := bW7.trans (hb8.mono bs7)
        have bs8 := bW8.size
        obtain ⟨Ay, cy, rfl, -⟩ := id hyp
        obtain ⟨Av, cv, rfl, -⟩ := id hvp
        have HS1 := Lib.hid (fun (W : World) (hW : Below w8.heap.size w8 W) => HSA.out _ _ _ W ((hxp.below pstS hW).mono pstS hW.size) ((hyp.below pstS hW).mono pstS hW.size))
        have HQ1 := Lib.hid (fun (W : World) (hW : Below w8.heap.size w8 W) => equalIn_c uu _ _ W W.heap.size (Nat.le_refl _) ((hup.below intS hW).mono intS hW.size) ((hvp.below intS hW).mono intS hW.size))
        clear hxp hup hyp hvp KEEP z0 z1 z2 z3 z4 z5
        go_wp2_with fail
        refine (HS1.out _ (Below.refl _ _)).mono ?_
        rintro e w9 ⟨rfl, hb9⟩
        go_wp2_with fail
        refine (HQ1.out _ hb9).mono ?_
        rintro e w10 ⟨rfl, hb10⟩
        go_wp2
        go_ret
        exact ⟨rfl, bW8.trans ((hb9.trans (hb10.mono hb9.size)).mono bs8)⟩
end Go.Proofs.YtpfngehledgkiaaGreat
