/- The program: Choose. -/
import Derived.Test.YtbmlnflacdockaaGreatDoorPrH
namespace Go.Proofs.YtbmlnflacdockaaGreatDoor
open Go.RowKit

/-- the chosen facts of a unit -/
def chooseR (c : Cat) (u : Int) (s : ByteArray) : List Fact := if rightB c s = false ∨ shtIx c.sheets u < 0 then [] else (c.sheets[(shtIx c.sheets u).toNat]?.map fun x => rchooseF x.facts (prefF c.langs s)).getD []
theorem rightB_iff {c : Cat} {s : ByteArray} (h : rightB c s = true) : catE c = 0 ∧ s ∈ c.langs := by
  unfold rightB at h
  rw [Bool.and_eq_true, decide_eq_true_iff] at h
  exact ⟨h.1, hasS_iff.1 h.2⟩
set_option maxRecDepth 100000 in
set_option maxHeartbeats 4000000 in
theorem Choose_c (c : Cat) (u : Int) (s : ByteArray) (v1 v2 v3 : Value) (w : World) (B : Nat) (hB : B ≤ w.heap.size) (h : CatRep w B c v1 v2 v3) :
    Calls Tryz.prog 20 #[.agg #[v1, v2, v3], .int .i64 u, .string s] w fun e w' => ∃ v', e = .returned v' ∧ OwnRep 3 (flat Fact.enc) 49 w.heap.size w' (chooseR c u s) v' ∧ Below w.heap.size w w' := by
  have b1 : Below w.heap.size w (w.alloc (catC v1 v2 v3)) := (Below.refl _ _).alloc (Nat.le_refl _) _
  have KC := Lib.hid (fun (W : World) (hW : Below (w.heap.size + 1) (w.alloc (catC v1 v2 v3)) W) => (⟨(hW.cell (p := ⟨w.heap.size, 0, none⟩) (by simp)).trans (by simp), (hW.cell (p := ⟨w.heap.size, 1, none⟩) (by simp)).trans (by simp), (hW.cell (p := ⟨w.heap.size, 2, none⟩) (by simp)).trans (by simp), by have := hW.size; simp at this; omega⟩ : W.cell? ⟨w.heap.size, 0, none⟩ = some v1 ∧ W.cell? ⟨w.heap.size, 1, none⟩ = some v2 ∧ W.cell? ⟨w.heap.size, 2, none⟩ = some v3 ∧ w.heap.size < W.heap.size))
  have HF := Lib.hid (fun (W : World) (hW : Below w.heap.size w W) => find_c c.sheets u v3 W B (Nat.le_trans hB hW.size) (h.sheets.below shtS (hW.mono hB)))
  have HSP := Lib.hid (fun (W : World) (hW : Below w.heap.size w W) => speaks_c c s v1 v2 v3 W B (Nat.le_trans hB hW.size) (h.below (hW.mono hB)))
  have hb0 : Below (w.heap.size + 1) (w.alloc (catC v1 v2 v3)) (w.alloc (catC v1 v2 v3)) := Below.refl _ _
  rcases idxF_cases (fun x : Sheet => decide (x.unit = u)) c.sheets with ⟨h1, -⟩ | ⟨k, x, h1, h2, -, -⟩
  · have hi : shtIx c.sheets u = -1 := h1
    have HE := Lib.hid (show chooseR c u s = [] by unfold chooseR; rw [hi, if_pos (.inr (by decide))])
    rw [hi] at HF
    clear h1 hi
    go_enter Tryz.func20, Tryz.ntmps20
    go_wp2_with fail
    refine (HF.out _ b1).mono ?_
    rintro e w1 ⟨rfl, hb1⟩
    go_wp2
    go_ret
    exact ⟨_, rfl, by rw [HE.out]; exact OwnRep.nil_, b1.trans (hb1.mono (by simp))⟩
  · have hi : shtIx c.sheets u = (k : Int) := h1
    have hkl := lt_of_at h2
    have hki0 : (0 : Int) ≤ (k : Int) := by omega
    have hki1 : (k : Int) < (c.sheets.length : Int) := by omega
    have hki2 : decide ((k : Int) < 0) = false := by simp
    cases hr : rightB c s
    · have HE := Lib.hid (show chooseR c u s = [] by unfold chooseR; rw [if_pos (.inl hr)])
      rw [hi] at HF
      rw [hr] at HSP
      clear h1 hi hr h2
      go_enter Tryz.func20, Tryz.ntmps20
      go_wp2_with fail
      refine (HF.out _ b1).mono ?_
      rintro e w1 ⟨rfl, hb1⟩
      have hbX := bnd_call hb0 (by simp) hb1
      obtain ⟨z0, z1, z2, zl⟩ := KC.out _ hbX
      have B1 := b1.trans (hbX.mono (Nat.le_succ _))
      go_wp2_with fail
      refine (HSP.out _ B1).mono ?_
      rintro e w2 ⟨rfl, hb2⟩
      go_wp2
      go_ret
      exact ⟨_, rfl, by rw [HE.out]; exact OwnRep.nil_, B1.trans (hb2.mono B1.size)⟩
    · obtain ⟨hc0, hsl⟩ := rightB_iff hr
      obtain ⟨hz1, -, -, hz4⟩ := catE_zero hc0
      obtain ⟨l1, l2, l3, -⟩ := langE_zero hz1
      have hz5 := (hz4 x (List.mem_of_getElem? h2)).2.2
      have HE := Lib.hid (show chooseR c u s = chooseF (prefP c.langs s) x.facts by
        unfold chooseR
        rw [if_neg (by rw [hi, hr]; simp), hi, pref_eq l3 hsl, choose_eq hz5]
        simp [h2])
      obtain ⟨A, ca, rfl, hc1, hc2, _⟩ := id h.sheets
      obtain ⟨b, off, vf, rfl, hbB, g0, g1, g2, g3, g4, g5, hvf⟩ := Sheets.at_ h.sheets h2
      have hbw : b < w.heap.size := by omega
      have HPR := Lib.hid (fun (W : World) (hW : Below w.heap.size w W) => prefer_c c s v1 v2 (.slice (some ⟨b, off, none⟩) c.sheets.length ca) W B (Nat.le_trans hB hW.size) (h.langs.below strS (hW.mono hB)) hsl l2)
      have HCH := Lib.hid (fun (vp : Value) (W : World) (hW : Below w.heap.size w W) (hp : Strs W W.heap.size (prefP c.langs s) vp) => choose_c x.facts (prefP c.langs s) vf vp W B (Nat.le_trans hB hW.size) (hvf.below fctS (hW.mono hB)) hp (fctE_len hz5))
      have KG := Lib.hid (fun (W : World) (hW : Below w.heap.size w W) => (hW.cell (p := ⟨b, off + k * 6 + 5, none⟩) hbw).trans g5)
      rw [hi] at HF
      rw [hr] at HSP
      clear h1 hi hr h2 hvf g0 g1 g2 g3 g4 g5 hz1 hz4 hz5 l1 l2 l3 hc0 hsl
      go_enter Tryz.func20, Tryz.ntmps20
      go_wp2_with fail
      refine (HF.out _ b1).mono ?_
      rintro e w1 ⟨rfl, hb1⟩
      have hbX := bnd_call hb0 (by simp) hb1
      obtain ⟨z0, z1, z2, zl⟩ := KC.out _ hbX
      have B1 := b1.trans (hbX.mono (Nat.le_succ _))
      go_wp2_with fail
      refine (HSP.out _ B1).mono ?_
      rintro e w2 ⟨rfl, hb2⟩
      have hbX := bnd_call hbX (by simp) hb2
      clear z0 z1 z2 zl
      go_wp2
      have hbX := hbX.drew
      have KEEP := Lib.hid (fun (W : World) (hW : Below (w.heap.size + 1) (w.alloc (catC v1 v2 (.slice (some ⟨b, off, none⟩) c.sheets.length ca))) W) => (⟨(KC.out W hW).1, (KC.out W hW).2.1, (KC.out W hW).2.2.1, KG.out W (b1.trans (hW.mono (Nat.le_succ _)))⟩ : W.cell? ⟨w.heap.size, 0, none⟩ = some v1 ∧ W.cell? ⟨w.heap.size, 1, none⟩ = some v2 ∧ W.cell? ⟨w.heap.size, 2, none⟩ = some (.slice (some ⟨b, off, none⟩) c.sheets.length ca) ∧ W.cell? ⟨b, off + k * 6 + 5, none⟩ = some vf))
      go_region_held3 (fun W => W.cell? ⟨w.heap.size, 0, none⟩ = some v1 ∧ W.cell? ⟨w.heap.size, 1, none⟩ = some v2 ∧ W.cell? ⟨w.heap.size, 2, none⟩ = some (.slice (some ⟨b, off, none⟩) c.sheets.length ca) ∧ W.cell? ⟨b, off + k * 6 + 5, none⟩ = some vf) (with_reducible exact KEEP.out _ hbX) (first
        | (go_at_call 33; (with_reducible refine (HPR.out _ (b1.trans (hbX.mono (Nat.le_succ _)))).mono ?_); rintro e wP ⟨vp, rfl, hownP, hb'⟩; have kP := hownP.toSl strS; have hbX := bnd_call hbX (by simp) hb')
        | (go_at_call 54; (with_reducible refine (HCH.out _ _ (b1.trans (hbX.mono (Nat.le_succ _))) kP).mono ?_); rintro e wQ ⟨vq, rfl, hownQ, hb''⟩; have B2 := b1.trans (hbX.mono (Nat.le_succ _)); have hbX := bnd_call hbX (by simp) hb''))
      go_wp2
      go_ret
      exact ⟨_, rfl, by rw [HE.out]; exact hownQ.base_le B2.size, b1.trans (hbX.mono (Nat.le_succ _))⟩
end Go.Proofs.YtbmlnflacdockaaGreatDoor
