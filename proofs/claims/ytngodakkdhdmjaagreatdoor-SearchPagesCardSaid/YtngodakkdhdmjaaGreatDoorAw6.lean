/- The example of chapter 56: awake returns true. -/
import Derived.Test.YtngodakkdhdmjaaGreatDoorTwQ
import Derived.Test.YtngodakkdhdmjaaGreatDoorFin
import Derived.Test.YtngodakkdhdmjaaGreatDoorSgc
import Derived.Test.YtngodakkdhdmjaaGreatDoorCln
namespace Go.Proofs.YtngodakkdhdmjaaGreatDoor
open Go.RowKit

def bWal : ByteArray := ⟨#[119, 97, 108, 108, 115]⟩
def bSee : ByteArray := ⟨#[115, 101, 101]⟩
def bEss : ByteArray := ⟨#[115]⟩
def exP : List Post := [⟨⟨#[57]⟩, 7, 1, 1⟩, ⟨bSee, 7, 1, 0⟩, ⟨⟨#[116, 111, 119, 110]⟩, 7, -1, 0⟩, ⟨bWal, 9, -1, 0⟩]
def exQ : Qt := .two ⟨7, 0, 0, ⟨#[]⟩⟩ (.leaf ⟨1, 0, 0, bWal⟩) (.leaf ⟨1, 0, 0, bSee⟩)
def exH : List Hit := [⟨9, 3⟩, ⟨7, 1⟩]
def exS : List Post := [⟨bWal, 9, -1, 0⟩]
instance : DecidableEq Hit := fun a b => if h : a.unit = b.unit ∧ a.score = b.score then isTrue (by cases a; cases b; simp only at h; rw [h.1, h.2]) else isFalse (fun e => h (by rw [e]; exact ⟨rfl, rfl⟩))
set_option maxRecDepth 100000 in
theorem ex6_buildE : buildE (townT bWalls) bEn = 0 := by decide +kernel
set_option maxRecDepth 100000 in
theorem ex6_buildF : buildF (townT bWalls) bEn = exP := by decide +kernel
set_option maxRecDepth 100000 in
theorem ex6_askE : askE exQ.ls = 0 := by decide +kernel
theorem ex6_fit : exQ.Fit := ⟨rfl, rfl, rfl⟩
set_option maxRecDepth 100000 in
theorem ex6_findE : findE (townT bWalls) bEn exP exQ.ls = 0 := by decide +kernel
set_option maxRecDepth 100000 in
theorem ex6_findL : findL (townT bWalls) bEn (undB (townT bWalls)) exP exQ.ls exQ = exH := by decide +kernel
set_option maxRecDepth 100000 in
theorem ex6_suppE : suppE exP exQ.ls = 0 := by decide +kernel
set_option maxRecDepth 100000 in
theorem ex6_suppL : suppL exP 9 exQ.ls = exS := by decide +kernel
set_option maxRecDepth 100000 in
theorem ex6_sco : scoF exS = 3 := by decide +kernel
set_option maxRecDepth 100000 in
theorem ex6_page : pageF exH 1 5 = [⟨7, 1⟩] := by decide +kernel
set_option maxRecDepth 100000 in
theorem ex6_sug : sugF exP bEss 1 = [bSee] := by decide +kernel
theorem ex6_size : (∀ p ∈ exP, p.word.size ≤ 1000000) ∧ ∀ a ∈ exQ.ls, a.text.size ≤ 1000000 := by decide +kernel
abbrev aw1 : Obj := .cells #[.int .i64 7, .int .i64 0, .int .i64 0, .string ⟨#[]⟩, .int .i64 1, .int .i64 0, .int .i64 0, .string ⟨#[119, 97, 108, 108, 115]⟩, .int .i64 1, .int .i64 0, .int .i64 0, .string ⟨#[115, 101, 101]⟩] 53
abbrev aw2 : Obj := .cells #[.int .i64 9, .int .i64 3, .int .i64 7, .int .i64 1] 30
abbrev aw3 : Obj := .cells #[.string ⟨#[119, 97, 108, 108, 115]⟩, .int .i64 9, .int .i64 (-1), .int .i64 0] 36
abbrev aw4 : Obj := .cells #[.string ⟨#[115, 101, 101]⟩] 9
set_option maxRecDepth 100000 in
set_option maxHeartbeats 8000000 in
theorem awake6_c (w : World) (hV : VarOk w) : Calls Tryz.prog 8 #[] w fun e w' => e = .returned (.bool true) ∧ Below w.heap.size w w' := by
  have HV := Lib.hid (fun (W : World) (hW : Below w.heap.size w W) => hV.below hW)
  clear hV
  go_enter Tryz.func8, Tryz.ntmps8
  go_wp2_with fail
  refine (town5_c _).mono ?_
  rintro e w1 ⟨rfl, hT1, hs1, b1⟩
  have o1 : Below w1.heap.size w1 (w1.alloc (catC (tv1 w.heap.size) (tv2 w.heap.size) (tv3 w.heap.size))) := (Below.refl _ _).alloc (Nat.le_refl _) _
  have hT2 := hT1.call o1
  have B2 := b1.trans (o1.mono b1.size)
  have hC2 := heap_newS w1 (catC (tv1 w.heap.size) (tv2 w.heap.size) (tv3 w.heap.size))
  have HBU := Lib.hid (iBuild_c (townT bWalls) bEn _ _ _ _ _ (Nat.le_refl _) hT2.rep)
  rw [ex6_buildE, ex6_buildF] at HBU
  clear hT1 hs1 o1
  go_wp2_with fail
  refine HBU.out.mono ?_
  rintro e w2 ⟨vL, rfl, hL, b2⟩
  have B3 := B2.trans (b2.mono B2.size)
  have hT3 := hT2.call b2
  have hC3 := (b2.block _ (heap_ltQ hC2)).trans hC2
  obtain ⟨AL, nL, cL, rfl, hnL⟩ := own_form pstS hL
  have hL3 := hL.toSl pstS
  have o2 : Below w2.heap.size w2 (w2.alloc aw1) := (Below.refl _ _).alloc (Nat.le_refl _) _
  have B4 := B3.trans (o2.mono B3.size)
  have hT4 := hT3.call o2
  have hC4 := (o2.block _ (heap_ltQ hC3)).trans hC3
  have hL4 := (hL3.below pstS o2).mono pstS o2.size
  have hq4 : Asks (w2.alloc aw1) (w2.alloc aw1).heap.size exQ.ls (.slice (some ⟨w2.heap.size, 0, none⟩) 3 3) := sl_at askS (css := exQ.ls.map Ask.enc) rfl (heap_newS w2 aw1) flat_row (by simp) rfl (by decide)
  have HFI := Lib.hid (sfind_c (townT bWalls) bEn exP exQ.ls exQ _ _ _ _ _ _ _ (Nat.le_refl _) hT4.rep hL4 hq4 (fun _ => ⟨ex6_fit, rfl⟩) ex6_size.2 (fun _ => by decide) (HV.out _ B4))
  rw [ex6_findE, ex6_findL] at HFI
  have z0 : (w2.alloc aw1).cell? ⟨w1.heap.size, 0, none⟩ = some (tv1 w.heap.size) := by rw [Lib.cell_of_heap hC4]; rfl
  have z1 : (w2.alloc aw1).cell? ⟨w1.heap.size, 1, none⟩ = some (tv2 w.heap.size) := by rw [Lib.cell_of_heap hC4]; rfl
  have z2 : (w2.alloc aw1).cell? ⟨w1.heap.size, 2, none⟩ = some (tv3 w.heap.size) := by rw [Lib.cell_of_heap hC4]; rfl
  clear HBU hT2 hT3 hC2 hC3 hL hL3 b2 o2
  go_wp2_with fail
  refine HFI.out.mono ?_
  rintro e w3 ⟨vH, rfl, hH, b3⟩
  obtain ⟨AH, nH, cH, rfl, hnH⟩ := own_form hitS hH
  have B5 := B4.trans (b3.mono B4.size)
  have hL5 := (hL4.below pstS b3).mono pstS b3.size
  have hq5 := (hq4.below askS b3).mono askS b3.size
  have hH5 := hH.toSl hitS
  have HSU := Lib.hid (Support_c exP 9 exQ.ls _ _ w3 _ (Nat.le_refl _) hL5 hq5 ex6_size.1 ex6_size.2 (HV.out _ B5))
  rw [ex6_suppE, ex6_suppL] at HSU
  clear HFI hT4 hC4 hL4 hq4 hH b3
  go_wp2_with fail
  refine HSU.out.mono ?_
  rintro e w4 ⟨vS, rfl, hS, b4⟩
  obtain ⟨AS, nS, cS, rfl, hnS⟩ := own_form pstS hS
  have B6 := B5.trans (b4.mono B5.size)
  have hL6 := (hL5.below pstS b4).mono pstS b4.size
  have hH6 := (hH5.below hitS b4).mono hitS b4.size
  have hS6 := hS.toSl pstS
  have o5 : Below w4.heap.size w4 (w4.alloc aw2) := (Below.refl _ _).alloc (Nat.le_refl _) _
  have B7 := B6.trans (o5.mono B6.size)
  have hL7 := (hL6.below pstS o5).mono pstS o5.size
  have hH7 := (hH6.below hitS o5).mono hitS o5.size
  have hS7 := (hS6.below pstS o5).mono pstS o5.size
  have HE1 := Lib.hid (equalH_c exH (by decide) _ _ _ _ (Nat.le_refl _) hH7 (sl_at hitS (css := exH.map Hit.enc) rfl (heap_newS w4 aw2) flat_row (by simp) (n := 2) rfl (by decide)))
  clear HSU hL5 hq5 hH5 hS hL6 hH6 hS6 b4 o5
  go_wp2_with fail
  refine HE1.out.mono ?_
  rintro e w5 ⟨rfl, b5⟩
  have B8 := B7.trans (b5.mono B7.size)
  have o6 : Below w5.heap.size w5 (w5.alloc aw3) := (Below.refl _ _).alloc (Nat.le_refl _) _
  have b6 := b5.trans (o6.mono b5.size)
  have B9 := B7.trans (b6.mono B7.size)
  have hL9 := (hL7.below pstS b6).mono pstS b6.size
  have hH9 := (hH7.below hitS b6).mono hitS b6.size
  have hS9 := (hS7.below pstS b6).mono pstS b6.size
  have HE2 := Lib.hid (show Calls Tryz.prog 38 #[.slice AS nS cS, .slice (some ⟨w5.heap.size, 0, none⟩) 1 1] (w5.alloc aw3) fun e w' => e = .returned (.bool true) ∧ Below (w5.alloc aw3).heap.size (w5.alloc aw3) w' from (equalPosts_c exS exS _ _ _ _ (Nat.le_refl _) hS9 (sl_at pstS (css := exS.map Post.enc) rfl (heap_newS w5 aw3) flat_row (by simp) rfl (by decide))).mono fun e w' ⟨h1, n, h2⟩ => ⟨by rw [eqL_self eqPost_iff] at h1; exact h1, by rw [h2]; exact below_drewN (Below.refl _ _) _⟩)
  clear HE1 hL7 hH7 hS7 b5 o6 b6
  go_wp2_with fail
  refine HE2.out.mono ?_
  rintro e w6 ⟨rfl, b7⟩
  have B10 := B9.trans (b7.mono B9.size)
  have hL10 := (hL9.below pstS b7).mono pstS b7.size
  have hH10 := (hH9.below hitS b7).mono hitS b7.size
  have hS10 := (hS9.below pstS b7).mono pstS b7.size
  have HSC := Lib.hid (score_c exS _ w6 _ (Nat.le_refl _) hS10 (by decide))
  rw [ex6_sco] at HSC
  clear HE2 hL9 hH9 hS9 b7
  go_wp2_with fail
  refine HSC.out.mono ?_
  rintro e w7 ⟨rfl, b8⟩
  have B11 := B10.trans (b8.mono B10.size)
  have hL11 := (hL10.below pstS b8).mono pstS b8.size
  have hH11 := (hH10.below hitS b8).mono hitS b8.size
  have HPG := Lib.hid (page_c exH 1 5 _ w7 _ (Nat.le_refl _) hH11 (by decide) (by omega) (by omega))
  rw [ex6_page] at HPG
  clear HSC hL10 hH10 hS10 b8
  go_wp2_with fail
  refine HPG.out.mono ?_
  rintro e w8 ⟨vG, rfl, hG, b9⟩
  obtain ⟨AG, nG, cG, rfl, hnG⟩ := own_form hitS hG
  have hng : nG = 1 := hnG.out
  subst hng
  have B12 := B11.trans (b9.mono B11.size)
  have hL12 := (hL11.below pstS b9).mono pstS b9.size
  have HSG := Lib.hid (suggest_c exP bEss 1 _ w8 _ (Nat.le_refl _) hL12 ex6_size.1 (by decide) (by omega) (by omega))
  rw [ex6_sug] at HSG
  clear HPG hL11 hH11 hG b9
  go_wp2_with fail
  refine HSG.out.mono ?_
  rintro e w9 ⟨vW, rfl, hW, b10⟩
  obtain ⟨AW, nW, cW, rfl, hnW⟩ := own_form strS hW
  have B13 := B12.trans (b10.mono B12.size)
  have o11 : Below w9.heap.size w9 (w9.alloc aw4) := (Below.refl _ _).alloc (Nat.le_refl _) _
  have B14 := B13.trans (o11.mono B13.size)
  have HE3 := Lib.hid (equalSt_c [bSee] (.slice AW nW cW) (.slice (some ⟨w9.heap.size, 0, none⟩) 1 1) (w9.alloc aw4) _ (Nat.le_refl _) (((hW.toSl strS).below strS o11).mono strS o11.size) (sl_at strS (css := [bSee].map strEnc) rfl (heap_newS w9 aw4) flat_row (by simp) rfl (by decide)))
  clear HSG hL12 hW b10 o11
  go_wp2_with fail
  refine HE3.out.mono ?_
  rintro e wA ⟨rfl, bA⟩
  go_wp2
  go_ret
  exact ⟨rfl, B14.trans (bA.mono B14.size)⟩
end Go.Proofs.YtngodakkdhdmjaaGreatDoor
