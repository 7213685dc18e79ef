/- What every law of chapter 19 begins with; slices.Index and Contains at integers. -/
import Derived.Test.YthbccfchjgihgaaGreatDoorPrn
import Derived.Test.YthbccfchjgihgaaGreatDoorRow
import Derived.Test.YthbccfchjgihgaaGreatDoorCpT
import Derived.Test.YthbccfchjgihgaaGreatDoorCom
namespace Go.Proofs.YthbccfchjgihgaaGreatDoor
open Go.RowKit

theorem sl_at {α : Type} {k : Nat} {R : CRep α} (hR : Shape k R) {W : World} {g n : Nat} {F : Nat → Prop} {xs : List α} {css : List (List Value)} {t : TypeId} (hl : css.length = xs.length) (h : W.heap[g]? = some (.cells css.flatten.toArray t (0, 0))) (hr : ∀ (i : Nat) x cs, xs[i]? = some x → css[i]? = some cs → R W F x cs) (hF : F g) (hn : n = xs.length) (hm : n ≤ 9223372036854775807) :
    SlRep k R W F xs (.slice (some ⟨g, 0, none⟩) n n) := by
  subst hn
  refine ⟨_, xs.length, rfl, Nat.le_refl _, by omega, fun i x hx => ?_⟩
  obtain ⟨cs, hcs⟩ := get_at css (show i < css.length by rw [hl]; exact lt_of_at hx)
  refine ⟨g, 0, cs, rfl, hF, hr i x cs hx hcs, fun j u hu => ?_⟩
  rw [Lib.cell_of_heap h]
  have := flatten_at hR hl hr i x cs j u hx hcs hu
  simpa using this
theorem flat_row {α : Type} {enc : α → List Value} {W : World} {F : Nat → Prop} {xs : List α} : ∀ (i : Nat) x cs, xs[i]? = some x → (xs.map enc)[i]? = some cs → flat enc W F x cs := fun i x cs hx hcs => by
  rw [List.getElem?_map, hx] at hcs
  injection hcs with hcs
  exact hcs.symm
theorem ints_flat (xs : List Int) : (xs.map intEnc).flatten = xs.map fun x => Value.int .i64 x := by
  induction xs with
  | nil => rfl
  | cons x xs ih => rw [List.map_cons, List.flatten_cons, ih]; rfl
theorem ints_at {W : World} {g n : Nat} {F : Nat → Prop} (xs : List Int) (h : W.heap[g]? = some (.cells (xs.map fun x => Value.int .i64 x).toArray 3 (0, 0))) (hF : F g) (hn : n = xs.length) (hm : n ≤ 9223372036854775807) : SlRep 1 (flat intEnc) W F xs (.slice (some ⟨g, 0, none⟩) n n) :=
  sl_at intS (css := xs.map intEnc) (by simp) (by rw [h, ints_flat]) flat_row hF hn hm
abbrev exR : Obj := .cells #[.int .i64 1] 3
abbrev exK : Obj := .cells #[.int .i64 2, .int .i64 5] 3
abbrev exN : Obj := .cells #[.int .i64 9] 3
abbrev exB (n : Nat) : Obj := .cells #[.int .i64 1, .int .i64 0, .int .i64 1, .string ⟨#[84, 111, 119, 110]⟩, .string ⟨#[84]⟩, .slice (some ⟨n + 1, 0, none⟩) 2 2, .int .i64 2, .int .i64 1, .int .i64 2, .string ⟨#[65, 99, 116, 115]⟩, .string ⟨#[]⟩, .slice (some ⟨n + 1 + 1, 0, none⟩) 1 1,
  .int .i64 5, .int .i64 1, .int .i64 2, .string ⟨#[80, 108, 97, 110, 115]⟩, .string ⟨#[]⟩, .slice none 0 0, .int .i64 9, .int .i64 2, .int .i64 3, .string ⟨#[77, 105, 108, 108]⟩, .string ⟨#[84, 45, 57]⟩, .slice none 0 0] 60
abbrev exVr (n : Nat) : Value := .slice (some ⟨n, 0, none⟩) 1 1
abbrev exVb (n : Nat) : Value := .slice (some ⟨n + 1 + 1 + 1, 0, none⟩) 4 4
abbrev exW (w : World) : World := ((((w.alloc exR).alloc exK).alloc exN).alloc (exB w.heap.size)).alloc (treC (exVr w.heap.size) (exVb w.heap.size))
theorem exW_at (w : World) : TreRep (exW w) (exW w).heap.size exT (exVr w.heap.size) (exVb w.heap.size) ∧ Below w.heap.size w (exW w) ∧ (exW w).heap[w.heap.size + 1 + 1 + 1 + 1]? = some (treC (exVr w.heap.size) (exVb w.heap.size)) ∧ (exW w).heap.size = w.heap.size + 5 := by
  have s1 : (w.alloc exR).heap.size = w.heap.size + 1 := by simp
  have s2 : ((w.alloc exR).alloc exK).heap.size = w.heap.size + 1 + 1 := by simp
  have s3 : (((w.alloc exR).alloc exK).alloc exN).heap.size = w.heap.size + 1 + 1 + 1 := by simp
  have s4 : ((((w.alloc exR).alloc exK).alloc exN).alloc (exB w.heap.size)).heap.size = w.heap.size + 1 + 1 + 1 + 1 := by simp
  have s5 : (exW w).heap.size = w.heap.size + 5 := by simp
  have b4 : Below (w.heap.size + 1 + 1 + 1 + 1) ((((w.alloc exR).alloc exK).alloc exN).alloc (exB w.heap.size)) (exW w) := (Below.refl _ _).alloc (Nat.le_of_eq s4.symm) _
  have b3 : Below (w.heap.size + 1 + 1 + 1) (((w.alloc exR).alloc exK).alloc exN) (exW w) := ((Below.refl _ _).alloc (Nat.le_of_eq s3.symm) _).trans (b4.mono (by omega))
  have b2 : Below (w.heap.size + 1 + 1) ((w.alloc exR).alloc exK) (exW w) := ((Below.refl _ _).alloc (Nat.le_of_eq s2.symm) _).trans (b3.mono (by omega))
  have b1 : Below (w.heap.size + 1) (w.alloc exR) (exW w) := ((Below.refl _ _).alloc (Nat.le_of_eq s1.symm) _).trans (b2.mono (by omega))
  have h0 : (exW w).heap[w.heap.size]? = some exR := (b1.block _ (by omega)).trans (heap_newT w _)
  have h1 : (exW w).heap[w.heap.size + 1]? = some exK := by
    have := heap_newT (w.alloc exR) exK
    rw [s1] at this
    exact (b2.block _ (by omega)).trans this
  have h2 : (exW w).heap[w.heap.size + 1 + 1]? = some exN := by
    have := heap_newT ((w.alloc exR).alloc exK) exN
    rw [s2] at this
    exact (b3.block _ (by omega)).trans this
  have h3 : (exW w).heap[w.heap.size + 1 + 1 + 1]? = some (exB w.heap.size) := by
    have := heap_newT (((w.alloc exR).alloc exK).alloc exN) (exB w.heap.size)
    rw [s3] at this
    exact (b4.block _ (by omega)).trans this
  have h4 : (exW w).heap[w.heap.size + 1 + 1 + 1 + 1]? = some (treC (exVr w.heap.size) (exVb w.heap.size)) := by
    have := heap_newT ((((w.alloc exR).alloc exK).alloc exN).alloc (exB w.heap.size)) (treC (exVr w.heap.size) (exVb w.heap.size))
    rwa [s4] at this
  refine ⟨⟨ints_at [1] h0 (by omega) rfl (by decide), ?_⟩, (((((Below.refl _ _).alloc (Nat.le_refl _) _).alloc (by simp) _).alloc (by simp; omega) _).alloc (by simp; omega) _).alloc (by simp; omega) _, h4, s5⟩
  refine sl_at brnS (css := [[.int .i64 1, .int .i64 0, .int .i64 1, .string ⟨#[84, 111, 119, 110]⟩, .string ⟨#[84]⟩, .slice (some ⟨w.heap.size + 1, 0, none⟩) 2 2], [.int .i64 2, .int .i64 1, .int .i64 2, .string ⟨#[65, 99, 116, 115]⟩, .string ⟨#[]⟩, .slice (some ⟨w.heap.size + 1 + 1, 0, none⟩) 1 1], [.int .i64 5, .int .i64 1, .int .i64 2, .string ⟨#[80, 108, 97, 110, 115]⟩, .string ⟨#[]⟩, .slice none 0 0], [.int .i64 9, .int .i64 2, .int .i64 3, .string ⟨#[77, 105, 108, 108]⟩, .string ⟨#[84, 45, 57]⟩, .slice none 0 0]]) rfl h3 ?_ (by omega) rfl (by decide)
  intro i x cs hx hcs
  rcases i with _ | _ | _ | _ | i
  · injection hx with hx; injection hcs with hcs; subst hx hcs
    exact ⟨_, rfl, ints_at [2, 5] h1 (by omega) rfl (by decide)⟩
  · injection hx with hx; injection hcs with hcs; subst hx hcs
    exact ⟨_, rfl, ints_at [9] h2 (by omega) rfl (by decide)⟩
  · injection hx with hx; injection hcs with hcs; subst hx hcs
    exact ⟨_, rfl, SlRep.nil_⟩
  · injection hx with hx; injection hcs with hcs; subst hx hcs
    exact ⟨_, rfl, SlRep.nil_⟩
  · simp [exT] at hx
theorem ex_size : SizT exT := ⟨by decide, by decide, by decide⟩
theorem ex_res : pathR exT 9 = [1, 2, 9] ∧ comR exT 9 5 = 1 ∧ belR exT 2 = [2, 9] ∧ kidsR exT 0 = [1] ∧ rowsE exT [] = 0 ∧ (rowsR exT []).length = 4 ∧ markF exT.brs ⟨#[84]⟩ = (1, true) ∧ (findU exT.brs 9).2 = true ∧ (findU exT.brs 9).1.parent = 2 ∧ printE exT = 0 := by
  refine ⟨by decide +kernel, by decide +kernel, by decide +kernel, by decide +kernel, by decide +kernel, by decide +kernel, by decide +kernel, by decide +kernel, by decide +kernel, by decide +kernel⟩
set_option maxRecDepth 100000 in
set_option maxHeartbeats 8000000 in
theorem awake_c (w : World) (hV : VarOk w) : Calls Tryz.prog 11 #[] w fun e w' => e = .returned (.bool true) ∧ Below w.heap.size w w' := by
  obtain ⟨k1, k2, k3, k4⟩ := exW_at w
  have KT := Lib.hid (fun (W : World) (hW : Below (exW w).heap.size (exW w) W) => tre_cells ((hW.block _ (by omega)).trans k3))
  have HX := Lib.hid (fun (W : World) (hW : Below (exW w).heap.size (exW w) W) => (⟨hW.size, k1.below hW, hV.below (k2.trans (hW.mono k2.size))⟩ : (exW w).heap.size ≤ W.heap.size ∧ TreRep W (exW w).heap.size exT (exVr w.heap.size) (exVb w.heap.size) ∧ VarOk W))
  have H1 := Lib.hid (fun (W : World) (hW : Below (exW w).heap.size (exW w) W) => show Calls Tryz.prog 13 #[treV (exVr w.heap.size) (exVb w.heap.size)] W fun e w' => e = .returned (.tuple #[.int .i64 (-1), .int .i64 0]) ∧ Below W.heap.size W w' from by
    have := check_c exT ex_size _ _ W _ (HX.out W hW).1 (HX.out W hW).2.1 (HX.out W hW).2.2
    unfold chkP at this
    rwa [ex_chk] at this)
  obtain ⟨pt, hpt⟩ : ∃ p : ByteArray, ⟨exL.toArray⟩ = p := ⟨_, rfl⟩
  have HPT := Lib.hid hpt
  have H2 := Lib.hid (fun (W : World) (hW : Below (exW w).heap.size (exW w) W) => show Calls Tryz.prog 35 #[treV (exVr w.heap.size) (exVb w.heap.size)] W fun e w' => e = .returned (.tuple #[.string pt, .int .i64 0]) ∧ Below W.heap.size W w' from by
    have := print_c exT ex_size _ _ W _ (HX.out W hW).1 (HX.out W hW).2.1 (HX.out W hW).2.2
    rwa [ex_print, hpt, ex_res.2.2.2.2.2.2.2.2.2] at this)
  clear hpt
  have H3 := Lib.hid (fun (W : World) (hW : Below (exW w).heap.size (exW w) W) => show Calls Tryz.prog 25 #[treV (exVr w.heap.size) (exVb w.heap.size), .int .i64 9] W fun e w' => ∃ v', e = .returned (.tuple #[v', .int .i64 0]) ∧ OwnRep 1 (flat intEnc) 3 W.heap.size w' [1, 2, 9] v' ∧ Below W.heap.size W w' from by
    have := Path_c exT ex_size 9 _ _ W _ (HX.out W hW).1 (HX.out W hW).2.1 (HX.out W hW).2.2
    rwa [ex_res.1, ex_known.1] at this)
  have H4 := Lib.hid (fun (W : World) (hW : Below (exW w).heap.size (exW w) W) => show Calls Tryz.prog 29 #[treV (exVr w.heap.size) (exVb w.heap.size), .int .i64 9, .int .i64 5] W fun e w' => e = .returned (.tuple #[.int .i64 1, .int .i64 0]) ∧ Below W.heap.size W w' from by
    have := common_c exT ex_size 9 5 _ _ W _ (HX.out W hW).1 (HX.out W hW).2.1 (HX.out W hW).2.2
    rwa [ex_res.2.1, ex_known.2.1] at this)
  have H5 := Lib.hid (fun (W : World) (hW : Below (exW w).heap.size (exW w) W) => show Calls Tryz.prog 27 #[treV (exVr w.heap.size) (exVb w.heap.size), .int .i64 2] W fun e w' => ∃ v', e = .returned (.tuple #[v', .int .i64 0]) ∧ OwnRep 1 (flat intEnc) 3 W.heap.size w' [2, 9] v' ∧ Below W.heap.size W w' from by
    have := Below_c exT ex_size 2 _ _ W _ (HX.out W hW).1 (HX.out W hW).2.1 (HX.out W hW).2.2
    rwa [ex_res.2.2.1, ex_known.2.2.1] at this)
  have H6 := Lib.hid (fun (W : World) (hW : Below (exW w).heap.size (exW w) W) => show Calls Tryz.prog 22 #[treV (exVr w.heap.size) (exVb w.heap.size), .int .i64 0] W fun e w' => ∃ v', e = .returned (.tuple #[v', .int .i64 0]) ∧ OwnRep 1 (flat intEnc) 3 W.heap.size w' [1] v' ∧ Below W.heap.size W w' from by
    have := Kids_c exT ex_size 0 _ _ W _ (HX.out W hW).1 (HX.out W hW).2.1 (HX.out W hW).2.2
    rwa [ex_res.2.2.2.1, ex_known.2.2.2] at this)
  obtain ⟨u9, hu9⟩ : ∃ u : Brn, (findU exT.brs 9).1 = u := ⟨_, rfl⟩
  have hup : (u9.parent == 2) = true := by rw [← hu9, ex_res.2.2.2.2.2.2.2.2.1]; rfl
  have H7 := Lib.hid (fun (W : World) (hW : Below (exW w).heap.size (exW w) W) => show Calls Tryz.prog 18 #[treV (exVr w.heap.size) (exVb w.heap.size), .int .i64 9] W fun e w' => e = .returned (.tuple #[untV u9, .bool true]) ∧ Below W.heap.size W w' from by
    have := find_c exT 9 _ _ W _ (HX.out W hW).1 (HX.out W hW).2.1
    rwa [hu9, ex_res.2.2.2.2.2.2.2.1] at this)
  clear hu9
  have H8 := Lib.hid (fun (W : World) (hW : Below (exW w).heap.size (exW w) W) => show Calls Tryz.prog 20 #[treV (exVr w.heap.size) (exVb w.heap.size), .string ⟨#[84]⟩] W fun e w' => e = .returned (.tuple #[.int .i64 1, .bool true]) ∧ Below W.heap.size W w' from by
    have := marked_c exT ⟨#[84]⟩ _ _ W _ (HX.out W hW).1 (HX.out W hW).2.1
    rwa [ex_res.2.2.2.2.2.2.1] at this)
  have H9 := Lib.hid (fun (W : World) (hW : Below (exW w).heap.size (exW w) W) => show Calls Tryz.prog 32 #[treV (exVr w.heap.size) (exVb w.heap.size), .slice none 0 0] W fun e w' => ∃ A c, e = .returned (.tuple #[.slice A 4 c, .int .i64 0]) ∧ Below W.heap.size W w' from by
    refine (rows_c exT ex_size [] _ _ _ W _ (HX.out W hW).1 (HX.out W hW).2.1 SlRep.nil_ (HX.out W hW).2.2).mono ?_
    rintro e w' ⟨v', rfl, ho, hb⟩
    obtain ⟨A, c, rfl, -⟩ := ho.toSl rwtS
    rw [ex_res.2.2.2.2.1, ex_res.2.2.2.2.2.1]
    exact ⟨A, c, rfl, hb⟩)
  have b0 : Below (exW w).heap.size (exW w) (exW w) := Below.refl _ _
  obtain ⟨z0, z1, -, -, zl⟩ := KT.out _ b0
  have HBW := Lib.hid k2
  clear k1 k2 k3 k4
  go_enter Tryz.func11, Tryz.ntmps11
  go_wp2_with fail
  refine (H1.out _ b0).mono ?_
  rintro e w1 ⟨rfl, hb1⟩
  have bX := bnd_call b0 (Nat.le_refl _) hb1
  clear z0 z1 zl hb1 b0
  obtain ⟨z0, z1, -, -, zl⟩ := KT.out _ bX
  go_wp2_with fail
  refine (H2.out _ bX).mono ?_
  rintro e w2 ⟨rfl, hb2⟩
  have bX := bnd_call bX (Nat.le_refl _) hb2
  clear z0 z1 zl hb2
  obtain ⟨z0, z1, -, -, zl⟩ := KT.out _ bX
  go_wp2_with fail
  refine (H3.out _ bX).mono ?_
  rintro e w3 ⟨vp, rfl, hp, hb3⟩
  have bX := bnd_call bX (Nat.le_refl _) hb3
  have hp := hp.toSl intS
  clear z0 z1 zl hb3
  obtain ⟨z0, z1, -, -, zl⟩ := KT.out _ bX
  go_wp2_with fail
  refine (H4.out _ bX).mono ?_
  rintro e w4 ⟨rfl, hb4⟩
  have bX := bnd_call bX (Nat.le_refl _) hb4
  have hp := (hp.below intS hb4).mono intS hb4.size
  clear z0 z1 zl hb4
  obtain ⟨z0, z1, -, -, zl⟩ := KT.out _ bX
  go_wp2_with fail
  refine (H5.out _ bX).mono ?_
  rintro e w5 ⟨vq, rfl, hq, hb5⟩
  have bX := bnd_call bX (Nat.le_refl _) hb5
  have hp := (hp.below intS hb5).mono intS hb5.size
  have hq := hq.toSl intS
  clear z0 z1 zl hb5
  obtain ⟨z0, z1, -, -, zl⟩ := KT.out _ bX
  go_wp2_with fail
  refine (H6.out _ bX).mono ?_
  rintro e w6 ⟨vk, rfl, hk, hb6⟩
  have bX := bnd_call bX (Nat.le_refl _) hb6
  have hp := (hp.below intS hb6).mono intS hb6.size
  have hq := (hq.below intS hb6).mono intS hb6.size
  have hk := hk.toSl intS
  clear z0 z1 zl hb6
  obtain ⟨z0, z1, -, -, zl⟩ := KT.out _ bX
  go_wp2_with fail
  refine (H7.out _ bX).mono ?_
  rintro e w7 ⟨rfl, hb7⟩
  have oU : Below w7.heap.size w7 (w7.alloc (untC u9)) := (Below.refl _ _).alloc (Nat.le_refl _) _
  have hb7 := hb7.trans (oU.mono hb7.size)
  have bX := bnd_call bX (Nat.le_refl _) hb7
  have hp := (hp.below intS hb7).mono intS hb7.size
  have hq := (hq.below intS hb7).mono intS hb7.size
  have hk := (hk.below intS hb7).mono intS hb7.size
  have KU := Lib.hid (fun (W : World) (hW : Below (w7.heap.size + 1) (w7.alloc (untC u9)) W) => unt_cells ((hW.block w7.heap.size (by omega)).trans (heap_newT w7 (untC u9))))
  have dX : Below (w7.heap.size + 1) (w7.alloc (untC u9)) (w7.alloc (untC u9)) := Below.refl _ _
  have hs7 : w7.heap.size + 1 ≤ (w7.alloc (untC u9)).heap.size := by simp
  clear z0 z1 zl hb7 oU
  obtain ⟨z0, z1, -, -, zl⟩ := KT.out _ bX
  go_wp2_with fail
  refine (H8.out _ bX).mono ?_
  rintro e w8 ⟨rfl, hb8⟩
  have bX := bnd_call bX (Nat.le_refl _) hb8
  have dX := bnd_call dX hs7 hb8
  have hp := (hp.below intS hb8).mono intS hb8.size
  have hq := (hq.below intS hb8).mono intS hb8.size
  have hk := (hk.below intS hb8).mono intS hb8.size
  clear z0 z1 zl hb8
  obtain ⟨z0, z1, -, -, zl⟩ := KT.out _ bX
  go_wp2_with fail
  refine (H9.out _ bX).mono ?_
  rintro e w9 ⟨A9, c9, rfl, hb9⟩
  have bX := bnd_call bX (Nat.le_refl _) hb9
  have dX := bnd_call dX hs7 hb9
  have hp := (hp.below intS hb9).mono intS hb9.size
  have hq := (hq.below intS hb9).mono intS hb9.size
  have hk := (hk.below intS hb9).mono intS hb9.size
  clear z0 z1 zl hb9
  obtain ⟨Ap, cp, rfl, -⟩ := id hp
  obtain ⟨Aq, cq, rfl, -⟩ := id hq
  obtain ⟨Ak, ck, rfl, -⟩ := id hk
  have hpe : pt.toList = ([49, 32, 102, 111, 110, 100, 115, 32, 84, 111, 119, 110, 32, 91, 84, 93, 10, 32, 32, 50, 32, 115, 101, 114, 105, 101, 115, 32, 65, 99, 116, 115, 10, 32, 32, 32, 32, 57, 32, 102, 105, 108, 101, 32, 77, 105, 108, 108, 32, 91, 84, 45, 57, 93, 10, 32, 32, 53, 32, 115, 101, 114, 105, 101, 115, 32, 80, 108, 97, 110, 115, 10] : List UInt8) := by rw [← HPT.out, ByteArray.toList_eq]; rfl
  have oP : Below w9.heap.size w9 (w9.alloc (.cells #[.int .i64 1, .int .i64 2, .int .i64 9] 3)) := (Below.refl _ _).alloc (Nat.le_refl _) _
  have HE1 := Lib.hid (eqInts_c [1, 2, 9] [1, 2, 9] (.slice Ap 3 cp) (.slice (some ⟨w9.heap.size, 0, none⟩) 3 3) (w9.alloc (.cells #[.int .i64 1, .int .i64 2, .int .i64 9] 3)) _ _ (hp.below intS oP) (ints_at (F := fun _ => True) [1, 2, 9] (heap_newT w9 _) trivial rfl (by decide)))
  clear hp
  go_wp2_with fail
  refine HE1.out.mono ?_
  rintro e wA ⟨rfl, hbA⟩
  have hbA := oP.trans (hbA.mono oP.size)
  have bX := bnd_call bX (Nat.le_refl _) hbA
  have dX := bnd_call dX hs7 hbA
  have hq := (hq.below intS hbA).mono intS hbA.size
  have hk := (hk.below intS hbA).mono intS hbA.size
  have oQ : Below wA.heap.size wA (wA.alloc (.cells #[.int .i64 2, .int .i64 9] 3)) := (Below.refl _ _).alloc (Nat.le_refl _) _
  have HE2 := Lib.hid (eqInts_c [2, 9] [2, 9] (.slice Aq 2 cq) (.slice (some ⟨wA.heap.size, 0, none⟩) 2 2) (wA.alloc (.cells #[.int .i64 2, .int .i64 9] 3)) _ _ (hq.below intS oQ) (ints_at (F := fun _ => True) [2, 9] (heap_newT wA _) trivial rfl (by decide)))
  clear hq hbA HE1 oP hpe
  go_wp2_with fail
  refine HE2.out.mono ?_
  rintro e wB ⟨rfl, hbB⟩
  have hbB := oQ.trans (hbB.mono oQ.size)
  have bX := bnd_call bX (Nat.le_refl _) hbB
  have dX := bnd_call dX hs7 hbB
  have hk := (hk.below intS hbB).mono intS hbB.size
  have oK : Below wB.heap.size wB (wB.alloc (.cells #[.int .i64 1] 3)) := (Below.refl _ _).alloc (Nat.le_refl _) _
  have HE3 := Lib.hid (eqInts_c [1] [1] (.slice Ak 1 ck) (.slice (some ⟨wB.heap.size, 0, none⟩) 1 1) (wB.alloc (.cells #[.int .i64 1] 3)) _ _ (hk.below intS oK) (ints_at (F := fun _ => True) [1] (heap_newT wB _) trivial rfl (by decide)))
  clear hk hbB HE2 oQ
  go_wp2_with fail
  refine HE3.out.mono ?_
  rintro e wC ⟨rfl, hbC⟩
  have hbC := oK.trans (hbC.mono oK.size)
  have bX := bnd_call bX (Nat.le_refl _) hbC
  have dX := bnd_call dX hs7 hbC
  obtain ⟨u0, u1, u2, u3, u4, ul⟩ := KU.out _ dX
  clear hbC HE3 oK
  go_wp2_with fail
  refine (fits_c 2 2 _).mono ?_
  rintro e wD ⟨rfl, rfl⟩
  rw [ex_fits]
  go_wp2
  go_ret
  exact ⟨rfl, HBW.out.trans (bX.mono HBW.out.size)⟩

theorem few_size {t : Tre} (h : fewT t = true) : SizT t := by
  obtain ⟨h1, h2, h3⟩ := few_brs h
  exact ⟨by omega, by omega, fun b hb => by have := (h3 b hb).1; omega⟩
theorem idxI_c (xs : List Int) (x : Int) (v : Value) (w : World) (F : Nat → Prop) (h : SlRep 1 (flat intEnc) w F xs v) :
    Calls Tryz.prog 39 #[v, .int .i64 x] w fun e w' => e = .returned (.int .i64 (Lib.idxOf xs x)) ∧ w' = w := by
  rcases Nat.eq_zero_or_pos xs.length with h0 | h0
  · obtain rfl : xs = [] := List.eq_nil_of_length_eq_zero h0
    obtain ⟨A, c, rfl, -⟩ := h
    exact Tryz.slices_Index_int_empty A c x w
  · have hc := (by obtain ⟨A, c, e, h1, h2, _⟩ := id h; exact Nat.le_trans h1 h2 : xs.length ≤ 9223372036854775807)
    obtain ⟨b, off, c, rfl, g⟩ := ints_form h h0
    refine (Tryz.slices_Index_int b off xs.length c xs x w (Nat.le_refl _) hc g).mono ?_
    rintro e w' ⟨rfl, hw⟩
    exact ⟨by rw [List.take_length], hw⟩
theorem hasI_c (xs : List Int) (x : Int) (v : Value) (w : World) (F : Nat → Prop) (h : SlRep 1 (flat intEnc) w F xs v) :
    Calls Tryz.prog 38 #[v, .int .i64 x] w fun e w' => e = .returned (.bool (xs.contains x)) ∧ w' = w := by
  rcases Nat.eq_zero_or_pos xs.length with h0 | h0
  · obtain rfl : xs = [] := List.eq_nil_of_length_eq_zero h0
    obtain ⟨A, c, rfl, -⟩ := h
    exact Tryz.slices_Contains_int_empty A c x w
  · have hc := (by obtain ⟨A, c, e, h1, h2, _⟩ := id h; exact Nat.le_trans h1 h2 : xs.length ≤ 9223372036854775807)
    obtain ⟨b, off, c, rfl, g⟩ := ints_form h h0
    refine (Tryz.slices_Contains_int b off xs.length c xs x w (Nat.le_refl _) hc g).mono ?_
    rintro e w' ⟨rfl, hw⟩
    exact ⟨by rw [List.take_length], hw⟩
theorem idx_at {xs : List Int} (hn : xs.Nodup) {k : Nat} {x : Int} (hx : xs[k]? = some x) : Lib.idxOf xs x = (k : Int) := by
  obtain ⟨hk, e⟩ := List.getElem?_eq_some_iff.1 hx
  have hd : ∀ j, j < xs.length → xs.getD j 0 = xs[j]! := fun j hj => by simp [List.getD, hj]
  have := Lib.idxFrom_hit x xs k 0 hk (by simp [List.getD, hx]) (fun j hj => by
    intro e2
    have hj' : j < xs.length := by omega
    have e3 : xs[j] = x := by simpa [List.getD, hj'] using e2
    have := (List.nodup_iff_pairwise_ne.1 hn)
    have := List.pairwise_iff_getElem.1 this j k hj' hk hj
    exact this (by rw [e3, e]))
  unfold Lib.idxOf
  rw [this, Nat.zero_add]
theorem idx_no {xs : List Int} {x : Int} (hx : x ∉ xs) : Lib.idxOf xs x < 0 := by
  unfold Lib.idxOf
  have : ∀ (xs : List Int) (i : Nat), x ∉ xs → Lib.idxFrom xs x i < 0 := by
    intro xs
    induction xs with
    | nil => intro i _; simp [Lib.idxFrom]
    | cons y ys ih =>
      intro i h
      have h1 : y ≠ x := fun e => h (by simp [e])
      simp only [Lib.idxFrom, if_neg h1]
      exact ih _ (fun hh => h (List.mem_cons_of_mem _ hh))
  exact this xs 0 hx
/-- the arguments of a law -/
structure LawC (t : Tre) (vr vb : Value) (w : World) (B : Nat) : Prop where
  hB : B ≤ w.heap.size
  rep : TreRep w B t vr vb
  ok : VarOk w
section
variable {t : Tre} {vr vb : Value} {w : World} {B : Nat} (h : LawC t vr vb w B)
include h
theorem LawC.at_ {W : World} (hW : Below w.heap.size w W) : B ≤ W.heap.size ∧ TreRep W B t vr vb ∧ VarOk W := ⟨Nat.le_trans h.hB hW.size, h.rep.below (hW.mono h.hB), h.ok.below hW⟩
theorem LawC.awake {W : World} (hW : Below w.heap.size w W) : Calls Tryz.prog 11 #[] W fun e w' => e = .returned (.bool true) ∧ Below W.heap.size W w' := awake_c W (h.at_ hW).2.2
theorem LawC.few {W : World} (hW : Below w.heap.size w W) : Calls Tryz.prog 12 #[treV vr vb] W fun e w' => e = .returned (.bool (fewT t)) ∧ Below W.heap.size W w' := few_c t vr vb W B (h.at_ hW).1 (h.at_ hW).2.1
theorem LawC.cp (hF : fewT t = true) {W : World} (hW : Below w.heap.size w W) : Calls Tryz.prog 14 #[treV vr vb] W (CpPost t W) := cp_c t (few_size hF).tops (few_size hF).brs (few_size hF).kids vr vb W B (h.at_ hW).1 (h.at_ hW).2.1
end
end Go.Proofs.YthbccfchjgihgaaGreatDoor
