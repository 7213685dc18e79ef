/- The example of chapter 55: awake returns true. -/
import Derived.Test.YtpfngehledgkiaaGreatTwQ
import Derived.Test.YtpfngehledgkiaaGreatUpd
import Derived.Test.YtpfngehledgkiaaGreatFnd
namespace Go.Proofs.YtpfngehledgkiaaGreat
open Go.RowKit

def bAlles : ByteArray := ⟨#[97, 108, 108, 101, 115]⟩
def bTown : ByteArray := ⟨#[116, 111, 119, 110]⟩
def bWall : ByteArray := ⟨#[119, 97, 108, 108, 115]⟩
def bOldw : ByteArray := ⟨#[111, 108, 100]⟩
def exL : List Post := [⟨bAlles, 7, 1, 0⟩, ⟨bTown, 7, -1, 0⟩, ⟨bWall, 9, -1, 0⟩]
def exM : List Post := [⟨bAlles, 7, 1, 0⟩, ⟨bOldw, 9, -1, 0⟩, ⟨bTown, 7, -1, 0⟩, ⟨bWall, 9, -1, 1⟩]
set_option maxRecDepth 100000 in
theorem ex_buildE : buildE (townT bWalls) bDe = 0 := by decide +kernel
set_option maxRecDepth 100000 in
theorem ex_buildF : buildF (townT bWalls) bDe = exL := by decide +kernel
set_option maxRecDepth 100000 in
theorem ex_updE : updE exL (townT bWalls) (townT bOld) bDe = 0 := by decide +kernel
set_option maxRecDepth 100000 in
theorem ex_updL : updL exL (townT bWalls) (townT bOld) bDe = exM := by decide +kernel
set_option maxRecDepth 100000 in
theorem ex_updU : updU exL (townT bWalls) (townT bOld) bDe = [9] := by decide +kernel
set_option maxRecDepth 100000 in
theorem ex_find : findF exM bWall = (3, 1) := by decide +kernel
set_option maxRecDepth 100000 in
theorem ex_words : (if chkL exM = 0 then wrdL exM else []) = [bAlles, bOldw, bTown, bWall] := by decide +kernel
set_option maxRecDepth 100000 in
theorem ex_of : (if rightE (townT bOld) bDe = 0 then ofF (townT bOld) bDe 9 else []).length = 2 := by decide +kernel
set_option maxRecDepth 100000 in
theorem ex_size : (∀ p ∈ exL, p.word.size ≤ 1000000) ∧ ∀ p ∈ exM, p.word.size ≤ 1000000 := by decide +kernel
abbrev exO1 : Obj := .cells #[.string ⟨#[97, 108, 108, 101, 115]⟩, .int .i64 7, .int .i64 1, .int .i64 0, .string ⟨#[116, 111, 119, 110]⟩, .int .i64 7, .int .i64 (-1), .int .i64 0, .string ⟨#[119, 97, 108, 108, 115]⟩, .int .i64 9, .int .i64 (-1), .int .i64 0] 43
abbrev exO2 : Obj := .cells #[.int .i64 9] 3
abbrev exO3 : Obj := .cells #[.string ⟨#[97, 108, 108, 101, 115]⟩, .string ⟨#[111, 108, 100]⟩, .string ⟨#[116, 111, 119, 110]⟩, .string ⟨#[119, 97, 108, 108, 115]⟩] 9
set_option maxRecDepth 100000 in
set_option maxHeartbeats 8000000 in
theorem awake5_c (w : World) : Calls Tryz.prog 7 #[] w fun e w' => e = .returned (.bool true) ∧ Below w.heap.size w w' := by
  have HT := Lib.hid (fun (W : World) => town5_c W)
  go_enter Tryz.func7, Tryz.ntmps7
  go_wp2_with fail
  refine (HT.out _).mono ?_
  rintro e w1 ⟨rfl, hT1, hs1, b1⟩
  have HBU := Lib.hid (iBuild_c (townT bWalls) bDe _ _ _ w1 w1.heap.size (Nat.le_refl _) hT1.rep)
  rw [ex_buildE, ex_buildF] at HBU
  go_wp2_with fail
  refine HBU.out.mono ?_
  rintro e w2 ⟨vL, rfl, hL, b2⟩
  have B2 := b1.trans (b2.mono b1.size)
  have hL2 := hL.own_lt
  obtain ⟨AL, cL, rfl, -⟩ := id (hL.toSl pstS)
  clear HBU hT1 hs1 b1 b2
  go_wp2_with fail
  refine (HT.out _).mono ?_
  rintro e w3 ⟨rfl, hT3, hs3, b3⟩
  have hL3 := hL.below pstS b3
  have B3 := B2.trans (b3.mono B2.size)
  have bC : Below w3.heap.size w3 (w3.alloc (catC (tv1 w2.heap.size) (tv2 w2.heap.size) (tv3 w2.heap.size))) := (Below.refl _ _).alloc (Nat.le_refl _) _
  have hTC := hT3.call bC
  have c0 : (w3.alloc (catC (tv1 w2.heap.size) (tv2 w2.heap.size) (tv3 w2.heap.size))).cell? ⟨w2.heap.size + 1 + 1 + 1 + 1, 10, none⟩ = some (.string bWalls) := by rw [Lib.cell_of_heap hTC.l4]; rfl
  have f0 := Lib.frozen_of_heap hTC.l4 10
  have hTD := hTC.set bOld
  have hLC := (hL3.below pstS bC).keep (w' := (w3.alloc (catC (tv1 w2.heap.size) (tv2 w2.heap.size) (tv3 w2.heap.size))).setCell ⟨w2.heap.size + 1 + 1 + 1 + 1, 10, none⟩ (.string bOld)) (fun b hb => Below.heap_setCell _ _ _ _ (by show b ≠ w2.heap.size + 1 + 1 + 1 + 1; have := (hL2 b hb).2; omega))
  have hCB : ((w3.alloc (catC (tv1 w2.heap.size) (tv2 w2.heap.size) (tv3 w2.heap.size))).setCell ⟨w2.heap.size + 1 + 1 + 1 + 1, 10, none⟩ (.string bOld)).heap[w3.heap.size]? = some (catC (tv1 w2.heap.size) (tv2 w2.heap.size) (tv3 w2.heap.size)) := by
    rw [Below.heap_setCell _ _ _ _ (show w3.heap.size ≠ w2.heap.size + 1 + 1 + 1 + 1 by omega)]
    exact heap_newL w3 _
  have BD := (B3.trans (bC.mono B3.size)).setCell (show w.heap.size ≤ (⟨w2.heap.size + 1 + 1 + 1 + 1, 10, none⟩ : Addr).block by have := B2.size; show w.heap.size ≤ w2.heap.size + 1 + 1 + 1 + 1; omega) (.string bOld)
  clear hT3 hL hL3 b3 hTC bC
  go_wp2
  have hWE : (.string ⟨#[79, 108, 100, 32, 119, 97, 108, 108, 115]⟩ : Value) = .string bOld := rfl
  rw [hWE]
  generalize (w3.alloc (catC (tv1 w2.heap.size) (tv2 w2.heap.size) (tv3 w2.heap.size))).setCell ⟨w2.heap.size + 1 + 1 + 1 + 1, 10, none⟩ (.string bOld) = WD at *
  have hb0 : Below WD.heap.size WD WD.drew := (Below.refl _ _).drew
  have hcl := heap_ltQ hCB
  have KC := Lib.hid (fun (W : World) (hW : Below WD.heap.size WD W) => (by
    have h := (hW.block _ hcl).trans hCB
    exact ⟨by rw [Lib.cell_of_heap h]; rfl, by rw [Lib.cell_of_heap h]; rfl, by rw [Lib.cell_of_heap h]; rfl⟩ : W.cell? ⟨w3.heap.size, 0, none⟩ = some (tv1 w2.heap.size) ∧ W.cell? ⟨w3.heap.size, 1, none⟩ = some (tv2 w2.heap.size) ∧ W.cell? ⟨w3.heap.size, 2, none⟩ = some (tv3 w2.heap.size)))
  have HLP := Lib.hid (fun (W : World) (hW : Below WD.heap.size WD W) => ((hLC.toSl pstS).below pstS hW).mono pstS hW.size)
  have HTO := Lib.hid (fun (W : World) (hW : Below WD.heap.size WD W) => (hTD.call hW).rep)
  have HUP := Lib.hid (fun (W : World) (hW : Below WD.heap.size WD W) (a1 a2 a3 : Value) (ha : CatRep W W.heap.size (townT bWalls) a1 a2 a3) => show Calls Tryz.prog 16 #[.slice AL exL.length cL, .agg #[a1, a2, a3], .agg #[tv1 w2.heap.size, tv2 w2.heap.size, tv3 w2.heap.size], .string ⟨#[100, 101]⟩] W fun e w' => ∃ v u, e = .returned (.tuple #[v, u, .int .i64 0]) ∧ OwnRep 4 (flat Post.enc) 43 W.heap.size w' exM v ∧ OwnRep 1 (flat intEnc) 3 W.heap.size w' [9] u ∧ Below W.heap.size W w' by
    have := update_c exL (townT bWalls) (townT bOld) bDe _ a1 a2 a3 _ _ _ W W.heap.size (Nat.le_refl _) (HLP.out W hW) ha (HTO.out W hW) ex_size.1 (by decide)
    rw [ex_updE, ex_updL, ex_updU] at this
    exact this)
  have hbX := hb0
  go_region_held3 (fun W => W.cell? ⟨w3.heap.size, 0, none⟩ = some (tv1 w2.heap.size) ∧ W.cell? ⟨w3.heap.size, 1, none⟩ = some (tv2 w2.heap.size) ∧ W.cell? ⟨w3.heap.size, 2, none⟩ = some (tv3 w2.heap.size)) (with_reducible exact KC.out _ hbX) (first
    | (go_at_call 42; (with_reducible refine (HT.out _).mono ?_); rintro e w4 ⟨rfl, hT4, -, b4⟩; have hbX := bnd_call hbX (Nat.le_refl _) b4; have hR4 : CatRep w4 w4.heap.size (townT bWalls) (tv1 WD.heap.size) (tv2 WD.heap.size) (tv3 WD.heap.size) := hT4.rep)
    | (go_at_call 16; (with_reducible refine (HUP.out _ hbX _ _ _ hR4).mono ?_); rintro e w5 ⟨vM, vU, rfl, hM5, hU5, b5⟩; have hbX := bnd_call hbX (Nat.le_refl _) b5))
  obtain ⟨AM, cM, rfl, -⟩ := id (hM5.toSl pstS)
  obtain ⟨AU, cU, rfl, -⟩ := id (hU5.toSl intS)
  have HFI := Lib.hid (iFind_c exM _ bWall w5 w5.heap.size (Nat.le_refl _) (hM5.toSl pstS) ex_size.2)
  rw [ex_find] at HFI
  clear HUP hR4 b5 b4
  go_wp2_with fail
  refine HFI.out.mono ?_
  rintro e w6 ⟨rfl, b6⟩
  have o1 : Below w6.heap.size w6 (w6.alloc exO1) := (Below.refl _ _).alloc (Nat.le_refl _) _
  have c1 := bnd_call (Below.refl _ _) (Nat.le_refl _) (b6.trans (o1.mono b6.size))
  have hbY := bnd_call hbX (Nat.le_refl _) (b6.trans (o1.mono b6.size))
  have HE1 := Lib.hid (show Calls Tryz.prog 27 #[.slice AL exL.length cL, .slice (some ⟨w6.heap.size, 0, none⟩) 3 3] (w6.alloc exO1) fun e w' => e = .returned (.bool true) ∧ Below (w6.alloc exO1).heap.size (w6.alloc exO1) w' from (equalPosts_c exL exL _ _ _ _ (Nat.le_refl _) (HLP.out _ hbY) (sl_at pstS (css := exL.map Post.enc) rfl (heap_newL w6 exO1) flat_row (by simp) rfl (by decide))).mono fun e w' ⟨h1, n, h2⟩ => ⟨by rw [eqL_self eqPost_iff] at h1; exact h1, by rw [h2]; exact below_drewN (Below.refl _ _) _⟩)
  clear HFI
  go_wp2_with fail
  refine HE1.out.mono ?_
  rintro e w7 ⟨rfl, b7⟩
  have hbY := bnd_call hbY (Nat.le_refl _) b7
  have c2 := bnd_call c1 (Nat.le_refl _) b7
  have o2 : Below w7.heap.size w7 (w7.alloc exO2) := (Below.refl _ _).alloc (Nat.le_refl _) _
  have c3 := bnd_call c2 (Nat.le_refl _) o2
  have hbY := bnd_call hbY (Nat.le_refl _) o2
  have HE2 := Lib.hid (equalIn_c [9] (.slice AU ([9] : List Int).length cU) (.slice (some ⟨w7.heap.size, 0, none⟩) 1 1) (w7.alloc exO2) _ (Nat.le_refl _) (((hU5.toSl intS).below intS c3).mono intS c3.size) (sl_at intS (css := [[.int .i64 9]]) rfl (heap_newL w7 exO2) (fun i x cs hx hcs => by
    rcases i with _ | i
    · injection hx with hx
      injection hcs with hcs
      subst hx hcs
      rfl
    · simp at hx) (by simp) rfl (by decide)))
  clear HE1 o1 o2 c1 c2 b7
  go_wp2_with fail
  refine HE2.out.mono ?_
  rintro e w8 ⟨rfl, b8⟩
  have hbY := bnd_call hbY (Nat.le_refl _) b8
  have c4 := bnd_call c3 (Nat.le_refl _) b8
  have HWD := Lib.hid (iWords_c exM (.slice AM exM.length cM) w8 w8.heap.size (Nat.le_refl _) (((hM5.toSl pstS).below pstS c4).mono pstS c4.size) ex_size.2)
  rw [ex_words] at HWD
  clear HE2 b8 c3
  go_wp2_with fail
  refine HWD.out.mono ?_
  rintro e w9 ⟨vW, rfl, hW9, b9⟩
  have hbY := bnd_call hbY (Nat.le_refl _) b9
  obtain ⟨AW, cW, rfl, -⟩ := id (hW9.toSl strS)
  have o3 : Below w9.heap.size w9 (w9.alloc exO3) := (Below.refl _ _).alloc (Nat.le_refl _) _
  have hbY := bnd_call hbY (Nat.le_refl _) o3
  have HE3 := Lib.hid (equalSt_c [bAlles, bOldw, bTown, bWall] (.slice AW ([bAlles, bOldw, bTown, bWall] : List ByteArray).length cW) (.slice (some ⟨w9.heap.size, 0, none⟩) 4 4) (w9.alloc exO3) _ (Nat.le_refl _) (((hW9.toSl strS).below strS o3).mono strS o3.size) (sl_at strS (css := [bAlles, bOldw, bTown, bWall].map strEnc) rfl (heap_newL w9 exO3) flat_row (by simp) rfl (by decide)))
  clear HWD b9 c4
  go_wp2_with fail
  refine HE3.out.mono ?_
  rintro e wA ⟨rfl, bA⟩
  have hbY := bnd_call hbY (Nat.le_refl _) bA
  obtain ⟨z0, z1, z2⟩ := KC.out _ hbY
  have zl := Nat.lt_of_lt_of_le hcl hbY.size
  have HOF := Lib.hid (iOf_c (townT bOld) bDe 9 _ _ _ wA wA.heap.size (Nat.le_refl _) (HTO.out _ hbY))
  clear HE3 bA
  go_wp2_with fail
  refine HOF.out.mono ?_
  rintro e wB ⟨vF, rfl, hF, bB⟩
  obtain ⟨AF, nF, cF, rfl, hnF⟩ := own_form pstS hF
  have hnf : nF = 2 := hnF.out.trans ex_of
  subst hnf
  have BA := BD.trans (hbY.mono BD.size)
  have BF := BA.trans (bB.mono BA.size)
  clear HOF
  go_wp2
  go_ret
  exact ⟨rfl, BF⟩
end Go.Proofs.YtpfngehledgkiaaGreat
