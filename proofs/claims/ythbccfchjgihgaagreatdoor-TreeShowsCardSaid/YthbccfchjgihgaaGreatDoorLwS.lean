/- TreeShows returns true. -/
import Derived.Test.YthbccfchjgihgaaGreatDoorLbR
import Derived.Test.YthbccfchjgihgaaGreatDoorRgP
import Derived.Test.YthbccfchjgihgaaGreatDoorRgQ
namespace Go.Proofs.YthbccfchjgihgaaGreatDoor
open Go.RowKit

theorem fewC_le {l : List Came} (h : fewC l = true) : l.length ≤ 100000 := by
  unfold fewC at h
  simp only [Bool.or_eq_true, decide_eq_true_eq] at h
  omega
theorem rowsR_le {t : Tre} {l : List Came} (hz : SizT t) : (rowsR t l).length ≤ 100000 := by
  unfold rowsR rowsF
  split
  · simp
  · rw [List.length_map]; exact hz.brs
set_option maxRecDepth 100000 in
set_option maxHeartbeats 8000000 in
theorem shows_law (t : Tre) (l : List Came) (vr vb vl : Value) (w : World) (B : Nat) (hB : B ≤ w.heap.size) (h : TreRep w B t vr vb) (hl : Cames w B l vl) (hV : VarOk w) :
    Calls Tryz.prog 6 #[treV vr vb, vl] w fun e w' => e = .returned (.bool true) ∧ Below w.heap.size w w' := by
  have b1 := tre_new w vr vb
  have hs1 : w.heap.size + 1 ≤ (w.alloc (treC vr vb)).heap.size := by simp
  have HC := Lib.hid (show LawC t vr vb w B from ⟨hB, h, hV⟩)
  have HL := Lib.hid (fun (W : World) (hW : Below w.heap.size w W) => (hl.below camS (hW.mono hB) : Cames W B l vl))
  have KC := Lib.hid (fun (W : World) (hW : Below (w.heap.size + 1) (w.alloc (treC vr vb)) W) => treW_at hW)
  have HUP := Lib.hid (fun (W : World) (hW : Below (w.heap.size + 1) (w.alloc (treC vr vb)) W) => b1.trans (hW.mono (Nat.le_succ _)))
  obtain ⟨Ar, cr, rfl, -⟩ := id h.tops
  obtain ⟨A, ca, rfl, -⟩ := id h.brs
  have bX : Below (w.heap.size + 1) (w.alloc (treC (.slice Ar t.roots.length cr) (.slice A t.brs.length ca))) (w.alloc (treC (.slice Ar t.roots.length cr) (.slice A t.brs.length ca))) := Below.refl _ _
  clear h hV hl
  go_enter Tryz.func6, Tryz.ntmps6
  go_wp2_with fail
  refine (HC.out.awake (HUP.out _ bX)).mono ?_
  rintro e w1 ⟨rfl, hb1⟩
  have bX := bnd_call bX hs1 hb1
  obtain ⟨z0, z1, zl⟩ := KC.out _ bX
  clear hb1
  go_wp2_with fail
  refine (HC.out.few (HUP.out _ bX)).mono ?_
  rintro e w2 ⟨rfl, hb2⟩
  have bX := bnd_call bX hs1 hb2
  clear z0 z1 zl hb2
  cases hF : fewT t
  · go_wp2_with fail
    refine (HC.out.awake (HUP.out _ bX)).mono ?_
    rintro e w3 ⟨rfl, hb3⟩
    have bX := bnd_call bX hs1 hb3
    go_wp2
    go_ret
    exact ⟨rfl, HUP.out _ bX⟩
  · have HCP := Lib.hid (fun (W : World) (hW : Below w.heap.size w W) => HC.out.cp hF hW)
    have HZ := Lib.hid (few_size hF)
    have HMK := Lib.hid (fun (b : Brn) (hb : b ∈ t.brs) => (by have := ((few_brs hF).2.2 b hb).2.2; omega : b.mark.size ≤ 100000))
    clear hF
    go_wp2_with fail
    refine (fewC_c l vl _ _ (HL.out _ (HUP.out _ bX))).mono ?_
    rintro e w3 ⟨rfl, rfl⟩
    cases hG : fewC l
    · go_wp2_with fail
      refine (HC.out.awake (HUP.out _ bX)).mono ?_
      rintro e w3 ⟨rfl, hb3⟩
      have bX := bnd_call bX hs1 hb3
      go_wp2
      go_ret
      exact ⟨rfl, HUP.out _ bX⟩
    · have hll := fewC_le hG
      have hrl := rowsR_le (l := l) HZ.out
      have HCL := Lib.hid (fun (W : World) (hW : Below w.heap.size w W) => cloneC_c l vl W B (HC.out.at_ hW).1 (HL.out W hW) hll)
      have HR1 := Lib.hid (fun (x y z : Value) (W : World) (hW : Below w.heap.size w W) (hr : TreRep W W.heap.size t x y) (hc : Cames W W.heap.size l z) => rows_c t HZ.out l x y z W _ (Nat.le_refl _) hr hc (HC.out.at_ hW).2.2)
      have HR2 := Lib.hid (fun (W : World) (hW : Below w.heap.size w W) => rRows_c t HZ.out HMK.out l hll (.slice Ar t.roots.length cr) (.slice A t.brs.length ca) vl W B (HC.out.at_ hW).1 (HC.out.at_ hW).2.1 (HL.out W hW))
      have HP1 := Lib.hid (fun (x y : Value) (W : World) (hW : Below w.heap.size w W) (hr : TreRep W W.heap.size t x y) => print_c t HZ.out x y W _ (Nat.le_refl _) hr (HC.out.at_ hW).2.2)
      have HP2 := Lib.hid (fun (W : World) (hW : Below w.heap.size w W) => rprint_c t HZ.out HMK.out (.slice Ar t.roots.length cr) (.slice A t.brs.length ca) W B (HC.out.at_ hW).1 (HC.out.at_ hW).2.1)
      clear hG hll
      unfold rowsQ at HR1 HR2
      generalize rowsE t l = re at *
      generalize rowsR t l = rs at *
      generalize (⟨(printT t).toArray⟩ : ByteArray) = ps at *
      generalize printE t = pe at *
      obtain ⟨z0, z1, zl⟩ := KC.out _ bX
      go_wp2_with fail
      refine (HCP.out _ (HUP.out _ bX)).mono ?_
      rintro e wc ⟨xc, yc, rfl, hrc, hbc⟩
      have bX := bnd_call bX hs1 hbc
      clear z0 z1 zl hbc
      go_wp2_with fail
      refine (HCL.out _ (HUP.out _ bX)).mono ?_
      rintro e wk ⟨vk, rfl, hok, hbk⟩
      have bX := bnd_call bX hs1 hbk
      have hrk : TreRep wk wk.heap.size t xc yc := (hrc.below hbk).mono hbk.size
      have hck := hok.toSl camS
      clear hrc hok hbk
      go_wp2_with fail
      refine (HR1.out _ _ _ _ (HUP.out _ bX) hrk hck).mono ?_
      rintro e wr ⟨v1, rfl, hown1, hbr⟩
      have bX := bnd_call bX hs1 hbr
      have hp1 := hown1.toSl rwtS
      clear hrk hck hown1 hbr
      obtain ⟨z0, z1, zl⟩ := KC.out _ bX
      go_wp2_with fail
      refine (HR2.out _ (HUP.out _ bX)).mono ?_
      rintro e wr2 ⟨v2, rfl, hown2, hbr2⟩
      have bX := bnd_call bX hs1 hbr2
      have hp1 := (hp1.below rwtS hbr2).mono rwtS (hbr2).size
      clear z0 z1 zl hbr2
      have hp2 := hown2.toSl rwtS
      clear hown2
      obtain ⟨z0, z1, zl⟩ := KC.out _ bX
      go_wp2_with fail
      refine (HCP.out _ (HUP.out _ bX)).mono ?_
      rintro e wc3 ⟨xc3, yc3, rfl, hrc3, hbc3⟩
      have bX := bnd_call bX hs1 hbc3
      have hp1 := (hp1.below rwtS hbc3).mono rwtS (hbc3).size
      have hp2 := (hp2.below rwtS hbc3).mono rwtS (hbc3).size
      clear z0 z1 zl hbc3
      go_wp2_with fail
      refine (HP1.out _ _ _ (HUP.out _ bX) hrc3).mono ?_
      rintro e wr3 ⟨rfl, hbr3⟩
      have bX := bnd_call bX hs1 hbr3
      have hp1 := (hp1.below rwtS hbr3).mono rwtS (hbr3).size
      have hp2 := (hp2.below rwtS hbr3).mono rwtS (hbr3).size
      clear hrc3 hbr3
      obtain ⟨z0, z1, zl⟩ := KC.out _ bX
      go_wp2_with fail
      refine (HP2.out _ (HUP.out _ bX)).mono ?_
      rintro e wr4 ⟨rfl, hbr4⟩
      have bX := bnd_call bX hs1 hbr4
      have hp1 := (hp1.below rwtS hbr4).mono rwtS (hbr4).size
      have hp2 := (hp2.below rwtS hbr4).mono rwtS (hbr4).size
      clear z0 z1 zl hbr4
      have HS := Lib.hid (sameRows_c rs hrl v1 v2 wr4 _ (Nat.le_refl _) hp1 hp2)
      clear hp1 hp2 hrl
      go_wp2_with fail
      refine HS.out.mono ?_
      rintro e w7 ⟨rfl, hb7⟩
      have bX := bnd_call bX hs1 hb7
      go_wp2
      go_ret
      exact ⟨rfl, HUP.out _ bX⟩
end Go.Proofs.YthbccfchjgihgaaGreatDoor
