/- The example of chapter 16: awake returns true. -/
import Derived.Test.YtenaifmkejmdaaaGreatDoorSam
import Derived.Test.YtenaifmkejmdaaaGreatDoorDvd
namespace Go.Proofs.YtenaifmkejmdaaaGreatDoor
open Go.RowKit

theorem sl_at {α : Type} {k : Nat} {R : CRep α} (hR : Shape k R) {W : World} {g n : Nat} {F : Nat → Prop} {xs : List α} {css : List (List Value)} {t : TypeId} (hl : css.length = xs.length) (h : W.heap[g]? = some (.cells css.flatten.toArray t (0, 0))) (hr : ∀ (i : Nat) x cs, xs[i]? = some x → css[i]? = some cs → R W F x cs) (hF : F g) (hn : n = xs.length) (hb : xs.length ≤ 1000) :
    SlRep k R W F xs (.slice (some ⟨g, 0, none⟩) n n) := by
  subst hn
  refine ⟨_, xs.length, rfl, Nat.le_refl _, by omega, fun i x hx => ?_⟩
  obtain ⟨cs, hcs⟩ := get_at css (show i < css.length by rw [hl]; exact lt_of_at hx)
  refine ⟨g, 0, cs, rfl, hF, hr i x cs hx hcs, fun j u hu => ?_⟩
  rw [Lib.cell_of_heap h]
  have := flatten_at hR hl hr i x cs j u hx hcs hu
  simpa using this
theorem flat_row {α : Type} {enc : α → List Value} {W : World} {F : Nat → Prop} {xs : List α} : ∀ (i : Nat) x cs, xs[i]? = some x → (xs.map enc)[i]? = some cs → flat enc W F x cs := fun i x cs hx hcs => by
  rw [List.getElem?_map, hx] at hcs
  injection hcs with hcs
  exact hcs.symm
def dig : ByteArray := ⟨(Lib.repeatL [160] 32).toArray⟩
def exT : TL := ⟨3, 8, 100, [⟨1, 70, ⟨#[97]⟩, 5, 9, 30, dig⟩, ⟨4, 71, ⟨#[98, 32, 99]⟩, 2, 6, 20, dig⟩]⟩
set_option maxRecDepth 100000 in
theorem ex_right : rightB exT = true := by decide +kernel
set_option maxRecDepth 100000 in
theorem ex_tot : totP exT = 50 ∧ totA exT = 2 ∧ totB exT = 9 ∧ totE exT = 0 := by decide +kernel
set_option maxRecDepth 100000 in
theorem ex_div1 : divE exT 40 = 0 ∧ divF exT 40 = [1, 1] := by decide +kernel
set_option maxRecDepth 100000 in
theorem ex_div2 : divE exT 50 = 0 ∧ divF exT 50 = [2] := by decide +kernel
set_option maxRecDepth 100000 in
theorem ex_chk : chkF exT = (-1, 0) := by decide +kernel
theorem ex_prt : printE exT = 0 := by unfold printE; rw [ex_right]; rfl
theorem ex_parse : parseF ⟨(printF exT).toArray⟩ = (exT, 0, 0) := parse_print ex_right (by have := print_len exT; omega)
abbrev exP : List UInt8 := [108, 105, 115, 116, 32, 51, 32, 56, 32, 49, 48, 48, 10, 105, 116, 101, 109, 32, 49, 32, 55, 48, 32, 53, 32, 57, 32, 51, 48, 32, 97, 48, 97, 48]
set_option maxRecDepth 100000 in
theorem ex_pre : Lib.hasPrefix (printF exT) exP = true := by decide +kernel
abbrev exO (d : ByteArray) : Obj := .cells #[.int .i64 1, .int .i64 70, .string ⟨#[97]⟩, .int .i64 5, .int .i64 9, .int .i64 30, .string d, .int .i64 4, .int .i64 71, .string ⟨#[98, 32, 99]⟩, .int .i64 2, .int .i64 6, .int .i64 20, .string d] 47
abbrev exL (w : World) : Obj := .cells #[.int .i64 3, .int .i64 8, .int .i64 100, .slice (some ⟨w.heap.size, 0, none⟩) 2 2] 24
abbrev exW (w : World) (d : ByteArray) : World := (w.alloc (exO d)).alloc (exL w)
theorem exW_at (w : World) : TLRep (exW w dig) (exW w dig).heap.size exT (.slice (some ⟨w.heap.size, 0, none⟩) 2 2) ∧ Below w.heap.size w (exW w dig) ∧ (exW w dig).heap[w.heap.size + 1]? = some (exL w) := by
  have h1 : (exW w dig).heap[w.heap.size]? = some (exO dig) := (Below.heap_alloc _ _ _ (by simp)).trans (heap_newA w _)
  have h2 : (exW w dig).heap[w.heap.size + 1]? = some (exL w) := by
    have := heap_newA (w.alloc (exO dig)) (exL w)
    rwa [show (w.alloc (exO dig)).heap.size = w.heap.size + 1 by simp] at this
  exact ⟨sl_at itmS (css := exT.items.map Item.enc) rfl h1 flat_row (by simp; omega) rfl (by decide), ((Below.refl _ _).alloc (Nat.le_refl _) _).alloc (by simp) _, h2⟩
set_option maxRecDepth 100000 in
set_option maxHeartbeats 8000000 in
theorem awake_c (w : World) (hV : VarOk w) : Calls Tryz.prog 8 #[] w fun e w' => e = .returned (.bool true) ∧ Below w.heap.size w w' := by
  have HRP := Lib.hid (Tryz.strings_Repeat ⟨#[160]⟩ 32 w (by decide) (by decide))
  obtain ⟨dg, hdg⟩ : ∃ d, dig = d := ⟨_, rfl⟩
  have HRP := Lib.hid (show Calls Tryz.prog 28 #[.string ⟨#[160]⟩, .int .i64 32] w fun e w' => e = .returned (.string dg) ∧ Below w.heap.size w w' by rw [← hdg]; exact HRP.out)
  have HDG := Lib.hid hdg
  clear hdg
  go_enter Tryz.func8, Tryz.ntmps8
  go_wp2_with fail
  refine HRP.out.mono ?_
  rintro e w1 ⟨rfl, hb1⟩
  have HW := Lib.hid (by have := exW_at w1; rwa [HDG.out] at this : TLRep (exW w1 dg) (exW w1 dg).heap.size exT (.slice (some ⟨w1.heap.size, 0, none⟩) 2 2) ∧ Below w1.heap.size w1 (exW w1 dg) ∧ (exW w1 dg).heap[w1.heap.size + 1]? = some (exL w1))
  have hlW : w1.heap.size + 1 < (exW w1 dg).heap.size := by simp
  have KT := Lib.hid (fun (W : World) (hW : Below (exW w1 dg).heap.size (exW w1 dg) W) => (by
    have h := (hW.block (w1.heap.size + 1) (by simp)).trans HW.out.2.2
    exact ⟨by rw [Lib.cell_of_heap h]; rfl, by rw [Lib.cell_of_heap h]; rfl, by rw [Lib.cell_of_heap h]; rfl, by rw [Lib.cell_of_heap h]; rfl⟩ : W.cell? ⟨w1.heap.size + 1, 0, none⟩ = some (.int .i64 3) ∧ W.cell? ⟨w1.heap.size + 1, 1, none⟩ = some (.int .i64 8) ∧ W.cell? ⟨w1.heap.size + 1, 2, none⟩ = some (.int .i64 100) ∧ W.cell? ⟨w1.heap.size + 1, 3, none⟩ = some (.slice (some ⟨w1.heap.size, 0, none⟩) 2 2)))
  have HX := Lib.hid (fun (W : World) (hW : Below (exW w1 dg).heap.size (exW w1 dg) W) => And.intro ((HW.out.1.below itmS hW).mono itmS hW.size) (hV.below ((hb1.trans (HW.out.2.1.mono hb1.size)).trans (hW.mono (by have := hb1.size; simp; omega)))))
  have HTO := Lib.hid (fun (W : World) (hW : Below (exW w1 dg).heap.size (exW w1 dg) W) => show Calls Tryz.prog 10 #[.agg #[.int .i64 3, .int .i64 8, .int .i64 100, .slice (some ⟨w1.heap.size, 0, none⟩) 2 2]] W fun e w' => e = .returned (.tuple #[.int .i64 50, .agg #[.int .i64 2, .int .i64 9], .int .i64 0]) ∧ Below W.heap.size W w' from by
    have := total_c exT _ W _ (Nat.le_refl _) (HX.out W hW).1 (HX.out W hW).2
    rw [ex_tot.1, ex_tot.2.1, ex_tot.2.2.1, ex_tot.2.2.2] at this
    exact this)
  have HD1 := Lib.hid (fun (W : World) (hW : Below (exW w1 dg).heap.size (exW w1 dg) W) => show Calls Tryz.prog 13 #[.agg #[.int .i64 3, .int .i64 8, .int .i64 100, .slice (some ⟨w1.heap.size, 0, none⟩) 2 2], .int .i64 40] W fun e w' => ∃ v', e = .returned (.tuple #[v', .int .i64 0]) ∧ OwnRep 1 (flat intEnc) 3 W.heap.size w' [1, 1] v' ∧ Below W.heap.size W w' from by
    have := divide_c exT _ 40 W _ (Nat.le_refl _) (HX.out W hW).1 (HX.out W hW).2
    unfold divR at this
    rw [ex_div1.1, ex_div1.2] at this
    exact this)
  have HD2 := Lib.hid (fun (W : World) (hW : Below (exW w1 dg).heap.size (exW w1 dg) W) => show Calls Tryz.prog 13 #[.agg #[.int .i64 3, .int .i64 8, .int .i64 100, .slice (some ⟨w1.heap.size, 0, none⟩) 2 2], .int .i64 50] W fun e w' => ∃ v', e = .returned (.tuple #[v', .int .i64 0]) ∧ OwnRep 1 (flat intEnc) 3 W.heap.size w' [2] v' ∧ Below W.heap.size W w' from by
    have := divide_c exT _ 50 W _ (Nat.le_refl _) (HX.out W hW).1 (HX.out W hW).2
    unfold divR at this
    rw [ex_div2.1, ex_div2.2] at this
    exact this)
  obtain ⟨pt, hpt⟩ : ∃ p : ByteArray, ⟨(printF exT).toArray⟩ = p := ⟨_, rfl⟩
  have HPT := Lib.hid hpt
  have HPR := Lib.hid (fun (W : World) (hW : Below (exW w1 dg).heap.size (exW w1 dg) W) => show Calls Tryz.prog 16 #[.agg #[.int .i64 3, .int .i64 8, .int .i64 100, .slice (some ⟨w1.heap.size, 0, none⟩) 2 2]] W fun e w' => e = .returned (.tuple #[.string pt, .int .i64 0]) ∧ Below W.heap.size W w' from by
    have := print_c exT _ W _ (Nat.le_refl _) (HX.out W hW).1 (HX.out W hW).2
    rw [ex_prt, hpt] at this
    exact this)
  have HPA := Lib.hid (fun (W : World) (hW : Below (exW w1 dg).heap.size (exW w1 dg) W) => show Calls Tryz.prog 18 #[.string pt] W fun e w' => ∃ v, e = .returned (.tuple #[.agg #[.int .i64 3, .int .i64 8, .int .i64 100, v], .int .i64 0, .int .i64 0]) ∧ OwnRep 7 (flat Item.enc) 47 W.heap.size w' exT.items v ∧ Below W.heap.size W w' from by
    have := parse_c pt W (HX.out W hW).2
    unfold prsQ at this
    rw [← hpt, ex_parse] at this
    rw [← hpt]
    exact this)
  have HCK := Lib.hid (fun (W : World) (hW : Below (exW w1 dg).heap.size (exW w1 dg) W) => show Calls Tryz.prog 21 #[.agg #[.int .i64 3, .int .i64 8, .int .i64 100, .slice (some ⟨w1.heap.size, 0, none⟩) 2 2]] W fun e w' => e = .returned (.tuple #[.int .i64 (-1), .int .i64 0]) ∧ Below W.heap.size W w' from by
    have := check_c exT _ W _ (Nat.le_refl _) (HX.out W hW).1 (HX.out W hW).2
    unfold chkP at this
    rw [ex_chk] at this
    exact this)
  have HHP := Lib.hid (fun (W : World) => show Calls Tryz.prog 29 #[.string pt, .string ⟨#[108, 105, 115, 116, 32, 51, 32, 56, 32, 49, 48, 48, 10, 105, 116, 101, 109, 32, 49, 32, 55, 48, 32, 53, 32, 57, 32, 51, 48, 32, 97, 48, 97, 48]⟩] W fun e w' => e = .returned (.bool true) ∧ w' = W from by
    have := Tryz.strings_HasPrefix pt ⟨exP.toArray⟩ W
    rw [← hpt, show Lib.hasPrefix (⟨(printF exT).toArray⟩ : ByteArray).data.toList (⟨exP.toArray⟩ : ByteArray).data.toList = true from ex_pre] at this
    rw [← hpt]
    exact this)
  clear hpt
  have b0 : Below (exW w1 dg).heap.size (exW w1 dg) (exW w1 dg) := Below.refl _ _
  obtain ⟨c0, c1, c2, c3⟩ := KT.out _ b0
  have HBW := Lib.hid (hb1.trans (HW.out.2.1.mono hb1.size))
  clear HRP hb1
  go_wp2_with fail
  refine (HTO.out _ b0).mono ?_
  rintro e w2 ⟨rfl, hb2⟩
  have b2 := bnd_call b0 (Nat.le_refl _) hb2
  have b3 := bnd_call b2 (Nat.le_refl _) ((Below.refl _ _).alloc (Nat.le_refl _) (datC 2 9) : Below w2.heap.size w2 (w2.alloc (datC 2 9)))
  have KD := Lib.hid (fun (W : World) (hW : Below (w2.heap.size + 1) (w2.alloc (datC 2 9)) W) => (have hd := (hW.block w2.heap.size (by simp)).trans (heap_newA w2 (datC 2 9)); have hc := dat_cells hd; ⟨hc.1, hc.2.1, hc.2.2.2.2⟩ : W.cell? ⟨w2.heap.size, 0, none⟩ = some (.int .i64 2) ∧ W.cell? ⟨w2.heap.size, 1, none⟩ = some (.int .i64 9) ∧ w2.heap.size < W.heap.size))
  have d3 : Below (w2.heap.size + 1) (w2.alloc (datC 2 9)) (w2.alloc (datC 2 9)) := Below.refl _ _
  clear hb2 b2 c0 c1 c2 c3
  obtain ⟨c0, c1, c2, c3⟩ := KT.out _ b3
  go_wp2_with fail
  refine (HD1.out _ b3).mono ?_
  rintro e w4 ⟨vp, rfl, hp, hb4⟩
  have b4 := bnd_call b3 (Nat.le_refl _) hb4
  have d4 := bnd_call d3 (by simp) hb4
  have hp4 := (hp.toSl intS)
  clear b3 d3 hb4 hp c0 c1 c2 c3
  obtain ⟨c0, c1, c2, c3⟩ := KT.out _ b4
  go_wp2_with fail
  refine (HD2.out _ b4).mono ?_
  rintro e w5 ⟨vq, rfl, hq, hb5⟩
  have b5 := bnd_call b4 (Nat.le_refl _) hb5
  have d5 := bnd_call d4 (by simp) hb5
  have hp5 := (hp4.below intS hb5).mono intS hb5.size
  have hq5 := (hq.toSl intS)
  clear b4 d4 hb5 hq hp4 c0 c1 c2 c3
  obtain ⟨c0, c1, c2, c3⟩ := KT.out _ b5
  go_wp2_with fail
  refine (HPR.out _ b5).mono ?_
  rintro e w6 ⟨rfl, hb6⟩
  have b6 := bnd_call b5 (Nat.le_refl _) hb6
  have d6 := bnd_call d5 (by simp) hb6
  have hp6 := (hp5.below intS hb6).mono intS hb6.size
  have hq6 := (hq5.below intS hb6).mono intS hb6.size
  clear b5 d5 hb6 hq5 hp5 c0 c1 c2 c3
  obtain ⟨c0, c1, c2, c3⟩ := KT.out _ b6
  go_wp2_with fail
  refine (HPA.out _ b6).mono ?_
  rintro e w7 ⟨vl, rfl, hl7, hb7⟩
  have o7 : Below w7.heap.size w7 (w7.alloc (.cells #[.int .i64 3, .int .i64 8, .int .i64 100, vl] 24)) := (Below.refl _ _).alloc (Nat.le_refl _) _
  have hb7' := hb7.trans (o7.mono hb7.size)
  have b7 := bnd_call b6 (Nat.le_refl _) hb7'
  have d7 := bnd_call d6 (by simp) hb7'
  have hp7 := (hp6.below intS hb7').mono intS hb7'.size
  have hq7 := (hq6.below intS hb7').mono intS hb7'.size
  have hl7' := ((hl7.toSl itmS).below itmS o7).mono itmS o7.size
  have KP := Lib.hid (fun (W : World) (hW : Below (w7.heap.size + 1) (w7.alloc (.cells #[.int .i64 3, .int .i64 8, .int .i64 100, vl] 24)) W) => (have hd := (hW.block w7.heap.size (by simp)).trans (heap_newA w7 _); ⟨by rw [Lib.cell_of_heap hd]; rfl, by rw [Lib.cell_of_heap hd]; rfl, by rw [Lib.cell_of_heap hd]; rfl, by rw [Lib.cell_of_heap hd]; rfl, heap_ltA hd⟩ : W.cell? ⟨w7.heap.size, 0, none⟩ = some (.int .i64 3) ∧ W.cell? ⟨w7.heap.size, 1, none⟩ = some (.int .i64 8) ∧ W.cell? ⟨w7.heap.size, 2, none⟩ = some (.int .i64 100) ∧ W.cell? ⟨w7.heap.size, 3, none⟩ = some vl ∧ w7.heap.size < W.heap.size))
  have p7 : Below (w7.heap.size + 1) (w7.alloc (.cells #[.int .i64 3, .int .i64 8, .int .i64 100, vl] 24)) (w7.alloc (.cells #[.int .i64 3, .int .i64 8, .int .i64 100, vl] 24)) := Below.refl _ _
  clear b6 d6 hb7 hb7' hq6 hp6 hl7 o7 c0 c1 c2 c3
  obtain ⟨c0, c1, c2, c3⟩ := KT.out _ b7
  obtain ⟨Av, nv, cv, rfl⟩ : ∃ A n c, vl = .slice A n c := by obtain ⟨A, c, h, -⟩ := hl7'; exact ⟨A, _, c, h⟩
  go_wp2_with fail
  refine (HCK.out _ b7).mono ?_
  rintro e w8 ⟨rfl, hb8⟩
  have b8 := bnd_call b7 (Nat.le_refl _) hb8
  have d8 := bnd_call d7 (by simp) hb8
  have p8 := bnd_call p7 (by simp) hb8
  have hp8 := (hp7.below intS hb8).mono intS hb8.size
  have hq8 := (hq7.below intS hb8).mono intS hb8.size
  have hl8 := (hl7'.below itmS hb8).mono itmS hb8.size
  clear b7 d7 p7 hb8 hq7 hp7 hl7' c0 c1 c2 c3
  obtain ⟨e0, e1, el⟩ := KD.out _ d8
  have o8 : Below w8.heap.size w8 (w8.alloc (.cells #[.int .i64 1, .int .i64 1] 3)) := (Below.refl _ _).alloc (Nat.le_refl _) _
  have HE1 := Lib.hid (equalIn_c [1, 1] vp (.slice (some ⟨w8.heap.size, 0, none⟩) 2 2) (w8.alloc (.cells #[.int .i64 1, .int .i64 1] 3)) _ (Nat.le_refl _) ((hp8.below intS o8).mono intS o8.size) (sl_at intS (css := [[.int .i64 1], [.int .i64 1]]) rfl (heap_newA w8 _) (fun i x cs hx hcs => by
    rcases i with _ | _ | i
    · injection hx with hx; injection hcs with hcs; subst hx hcs; rfl
    · injection hx with hx; injection hcs with hcs; subst hx hcs; rfl
    · simp at hx) (by simp) rfl (by decide)))
  obtain ⟨Ap, np, cpp, rfl⟩ : ∃ A n c, vp = .slice A n c := by obtain ⟨A, c, h, -⟩ := hp8; exact ⟨A, _, c, h⟩
  obtain ⟨Aq, nq, cq, rfl⟩ : ∃ A n c, vq = .slice A n c := by obtain ⟨A, c, h, -⟩ := hq8; exact ⟨A, _, c, h⟩
  go_wp2_with fail
  refine HE1.out.mono ?_
  rintro e w9 ⟨rfl, hb9⟩
  have hb9 := o8.trans (hb9.mono o8.size)
  have b9 := bnd_call b8 (Nat.le_refl _) hb9
  have p9 := bnd_call p8 (by simp) hb9
  have hq9 := (hq8.below intS hb9).mono intS hb9.size
  have hl9 := (hl8.below itmS hb9).mono itmS hb9.size
  clear b8 d8 p8 hb9 hq8 hp8 hl8 e0 e1 el o8 HE1
  have o9 : Below w9.heap.size w9 (w9.alloc (.cells #[.int .i64 2] 3)) := (Below.refl _ _).alloc (Nat.le_refl _) _
  have HE2 := Lib.hid (equalIn_c [2] (.slice Aq nq cq) (.slice (some ⟨w9.heap.size, 0, none⟩) 1 1) (w9.alloc (.cells #[.int .i64 2] 3)) _ (Nat.le_refl _) ((hq9.below intS o9).mono intS o9.size) (sl_at intS (css := [[.int .i64 2]]) rfl (heap_newA w9 _) (fun i x cs hx hcs => by
    rcases i with _ | i
    · injection hx with hx; injection hcs with hcs; subst hx hcs; rfl
    · simp at hx) (by simp) rfl (by decide)))
  go_wp2_with fail
  refine HE2.out.mono ?_
  rintro e wA ⟨rfl, hbA⟩
  have hbA := o9.trans (hbA.mono o9.size)
  have bA := bnd_call b9 (Nat.le_refl _) hbA
  have pA := bnd_call p9 (by simp) hbA
  have hlA := (hl9.below itmS hbA).mono itmS hbA.size
  clear b9 p9 hbA hq9 hl9 o9 HE2
  go_wp2_with fail
  refine (HHP.out _).mono ?_
  rintro e wB ⟨rfl, rfl⟩
  obtain ⟨c0, c1, c2, c3⟩ := KT.out _ bA
  obtain ⟨a0, a1, a2, a3, al⟩ := KP.out _ pA
  have al2 : w1.heap.size + 1 < wB.heap.size := Nat.lt_of_lt_of_le hlW bA.size
  have HSA := Lib.hid (show Calls Tryz.prog 20 #[.agg #[.int .i64 3, .int .i64 8, .int .i64 100, .slice Av nv cv], .agg #[.int .i64 3, .int .i64 8, .int .i64 100, .slice (some ⟨w1.heap.size, 0, none⟩) 2 2]] wB fun e w' => e = .returned (.bool true) ∧ Below wB.heap.size wB w' from by
    have := same_c exT exT (.slice Av nv cv) (.slice (some ⟨w1.heap.size, 0, none⟩) 2 2) wB _ (Nat.le_refl _) hlA (HX.out _ bA).1
    rw [sameB_self] at this
    exact this)
  clear hlA
  go_wp2_with fail
  refine HSA.out.mono ?_
  rintro e wC ⟨rfl, hbC⟩
  have bC := bnd_call bA (Nat.le_refl _) hbC
  go_wp2
  go_ret
  exact ⟨rfl, HBW.out.trans (bC.mono (by have := HBW.out.size; exact this))⟩
end Go.Proofs.YtenaifmkejmdaaaGreatDoor
