/- The example of the chapter: awake returns true. -/
import Derived.Test.YtgnaknanpgfpnaaAwake
namespace Go.Proofs.Ytgnaknanpgfpnaa
open Go.RowKit

theorem flat_at {α : Type} {k : Nat} {enc : α → List Value} (hR : Shape k (flat enc)) {W : World} {g : Nat} {us : List α} {t : TypeId} {n : Nat} (h : W.heap[g]? = some (.cells (us.map enc).flatten.toArray t (0, 0))) (hn : n = us.length) (hb : us.length ≤ 9223372036854775807) : SlRep k (flat enc) W (fun b => b < W.heap.size) us (.slice (some ⟨g, 0, none⟩) n n) := by
  subst hn
  refine ⟨_, us.length, rfl, Nat.le_refl _, hb, fun i x hx => ⟨g, 0, enc x, rfl, lt_heap h, rfl, fun j u hu => ?_⟩⟩
  rw [cell_at h]
  have := flatten_at (w := W) (F := fun _ => True) hR (xs := us) (css := us.map enc) (by simp) (fun i x cs hx hcs => by rw [List.getElem?_map, hx] at hcs; injection hcs with hcs; exact hcs.symm) i x (enc x) j u hx (by rw [List.getElem?_map, hx]; rfl) hu
  simpa using this
theorem heap_new (w : World) (o : Obj) : (w.alloc o).heap[w.heap.size]? = some o := by
  show (w.heap.push o)[w.heap.size]? = _
  simp

set_option maxRecDepth 100000 in
set_option maxHeartbeats 8000000 in
theorem awake_c (w : World) : Calls Try.prog 10 #[] w fun e w' => e = .returned (.bool true) ∧ Below w.heap.size w w' := by
  go_enter Try.func10, Try.ntmps10
  go_wp2_with fail
  refine (town_c w).mono ?_
  rintro e w1 ⟨rfl, ht1, hb1, -⟩
  have hs1 := hb1.size
  go_wp2_with fail
  refine (collect_ok (townL bC) _ w1 w1.heap.size (Nat.le_refl _) ht1 town_ok).mono ?_
  rintro e w2 ⟨v2, rfl, hown2, hb2⟩
  have hs2 := hb2.size
  have hsl2 := hown2.toSl giS
  have B2 := hb1.trans (hb2.mono hs1)
  clear ht1 hown2 hb1 hb2
  go_wp2_with fail
  refine (town_c w2).mono ?_
  rintro e w3 ⟨rfl, ht3, hb3, -⟩
  have hs3 := hb3.size
  have B3 := B2.trans (hb3.mono (by omega))
  have hsl3 := hsl2.below giS hb3
  clear B2 hsl2 hb3
  go_wp2_with fail
  refine (table_ok (townL bC) _ w3 w3.heap.size (Nat.le_refl _) ht3 town_ok).mono ?_
  rintro e w4 ⟨v4, rfl, htab, hb4⟩
  have hs4 := hb4.size
  have B4 := B3.trans (hb4.mono (by omega))
  have hsl4 := hsl3.below giS (hb4.mono hs3)
  clear B3 hsl3 ht3 hb4
  go_wp2_with fail
  refine (town_c w4).mono ?_
  rintro e w5 ⟨rfl, -, hb5, k2, k3, k4, k5⟩
  have hs5 := hb5.size
  have hl5 := lt_heap k5
  have B5 := B4.trans (hb5.mono (by omega))
  have hsl5 := hsl4.below giS (hb5.mono (by omega))
  have htab5 := htab.below paS hb5
  have c1 : w5.cell? ⟨w4.heap.size + 5, 5, none⟩ = some (.slice (some ⟨w4.heap.size + 4, 0, none⟩) 2 2) := (cell_at k5 5).trans rfl
  have c2 : w5.cell? ⟨w4.heap.size + 4, 8, none⟩ = some (.string bC) := (cell_at k4 8).trans rfl
  have c3 : w5.frozen? ⟨w4.heap.size + 4, 8, none⟩ = false := by simp [World.frozen?, k4]
  have hbad : Shots (w5.setCell ⟨w4.heap.size + 4, 8, none⟩ (.string bB)) w5.heap.size (townL bB) (.slice (some ⟨w4.heap.size + 5, 0, none⟩) 3 3) := by
    have := town_rep (W := w5.setCell ⟨w4.heap.size + 4, 8, none⟩ (.string bB)) (g := w4.heap.size) (m := bB) ((Below.heap_setCell _ _ _ _ (by show w4.heap.size + 2 ≠ w4.heap.size + 4; omega)).trans k2) ((Below.heap_setCell _ _ _ _ (by show w4.heap.size + 3 ≠ w4.heap.size + 4; omega)).trans k3) (by simp [World.setCell, Array.getElem?_modify, k4]) ((Below.heap_setCell _ _ _ _ (by show w4.heap.size + 5 ≠ w4.heap.size + 4; omega)).trans k5)
    simpa using this
  have B6 : Below w.heap.size w (w5.setCell ⟨w4.heap.size + 4, 8, none⟩ (.string bB)) := B5.setCell (by show w.heap.size ≤ w4.heap.size + 4; omega) _
  have hb6 : Below w4.heap.size w5 (w5.setCell ⟨w4.heap.size + 4, 8, none⟩ (.string bB)) := (Below.refl _ _).setCell (by show w4.heap.size ≤ w4.heap.size + 4; omega) _
  have hsl6 := hsl5.below giS (hb6.mono (by omega))
  have htab6 := htab5.below paS hb6
  have hz6 : (w5.setCell ⟨w4.heap.size + 4, 8, none⟩ (.string bB)).heap.size = w5.heap.size := by simp
  have HZ6 := Lib.hid hz6
  clear B4 B5 hsl4 hsl5 htab htab5 k2 k3 k4 k5 hb5 hb6 hz6
  go_wp2_with fail
  change Calls _ _ _ (w5.setCell ⟨w4.heap.size + 4, 8, none⟩ (.string bB)) _
  generalize hw6 : w5.setCell ⟨w4.heap.size + 4, 8, none⟩ (.string bB) = w6 at *
  clear hw6 c1 c2 c3
  have hs6 : w5.heap.size ≤ w6.heap.size := Nat.le_of_eq HZ6.out.symm
  have hs6' : w6.heap.size ≤ w5.heap.size := Nat.le_of_eq HZ6.out
  clear HZ6
  refine (town_c w6).mono ?_
  rintro e w7 ⟨rfl, ht7, hb7, -⟩
  have hs7 := hb7.size
  have B7 := B6.trans (hb7.mono (by omega))
  have hsl7 := hsl6.below giS (hb7.mono (by omega))
  have htab7 := htab6.below paS (hb7.mono (by omega))
  have hbad7 := hbad.below shS (hb7.mono (by omega))
  clear B6 hsl6 htab6 hbad
  have HH := Lib.hid (holder_c ⟨#[66]⟩ (townL bC) _ w7 w7.heap.size (Nat.le_refl _) ht7)
  rw [show progHolder (townL bC) ⟨#[66]⟩ = (1, true) from town_holder] at HH
  simp only [] at HH
  go_wp2_with fail
  refine HH.out.mono ?_
  rintro e w8 ⟨rfl, hb8⟩
  have hs8 := hb8.size
  have B8 := B7.trans (hb8.mono (by omega))
  have hsl8 := hsl7.below giS (hb8.mono (by omega))
  have htab8 := htab7.below paS (hb8.mono (by omega))
  have hbad8 := hbad7.below shS (hb8.mono (by omega))
  clear B7 hsl7 htab7 hbad7 ht7 HH hb7 hb8
  go_wp2_with fail
  refine (town_c w8).mono ?_
  rintro e w9 ⟨rfl, ht9, hb9, -⟩
  have hs9 := hb9.size
  have B9 := B8.trans (hb9.mono (by omega))
  have hsl9 := hsl8.below giS (hb9.mono (by omega))
  have htab9 := htab8.below paS (hb9.mono (by omega))
  have hbad9 := hbad8.below shS (hb9.mono (by omega))
  clear B8 hsl8 htab8 hbad8 hb9
  have HH := Lib.hid (standing_c 1 25 (townL bC) _ w9 w9.heap.size (Nat.le_refl _) ht9)
  rw [town_stand] at HH
  simp only [stVal] at HH
  go_wp2_with fail
  refine HH.out.mono ?_
  rintro e w10 ⟨rfl, hb10⟩
  have hs10 := hb10.size
  have B10 := B9.trans (hb10.mono (by omega))
  have hsl10 := hsl9.below giS (hb10.mono (by omega))
  have htab10 := htab9.below paS (hb10.mono (by omega))
  have hbad10 := hbad9.below shS (hb10.mono (by omega))
  clear B9 hsl9 htab9 hbad9 ht9 HH hb10
  obtain ⟨A2, c2', rfl, -⟩ := id hsl10
  obtain ⟨A4, c4', rfl, -⟩ := id htab10
  go_wp2_with fail
  have hbx : Below w10.heap.size w10 (w10.alloc (.cells #[.int .i64 1, .int .i64 0, .int .i64 1, .string bB, .string bx] 46)) := (Below.refl _ _).alloc (Nat.le_refl _) _
  have hn1 : ∀ o : Obj, ((w10.alloc (.cells #[.int .i64 1, .int .i64 0, .int .i64 1, .string bB, .string bx] 46)).alloc o).heap[w10.heap.size + 1]? = some o := fun o => by
    have := heap_new (w10.alloc (.cells #[.int .i64 1, .int .i64 0, .int .i64 1, .string bB, .string bx] 46)) o
    simpa using this
  have e1 := flat_at giS (us := [⟨⟨#[65]⟩, 1, 10, 20⟩, ⟨⟨#[65]⟩, 1, 30, 1048576⟩, ⟨⟨#[66]⟩, 1, 20, 30⟩, ⟨⟨#[67]⟩, 2, 30, 1048576⟩]) (n := 4) (t := 38) (hn1 (.cells #[.string ⟨#[65]⟩, .int .i64 1, .int .i64 10, .int .i64 20, .string ⟨#[65]⟩, .int .i64 1, .int .i64 30, .int .i64 1048576, .string ⟨#[66]⟩, .int .i64 1, .int .i64 20, .int .i64 30, .string ⟨#[67]⟩, .int .i64 2, .int .i64 30, .int .i64 1048576] 38)) rfl (by simp)
  have hb11 := hbx.alloc (by simp) (.cells #[.string ⟨#[65]⟩, .int .i64 1, .int .i64 10, .int .i64 20, .string ⟨#[65]⟩, .int .i64 1, .int .i64 30, .int .i64 1048576, .string ⟨#[66]⟩, .int .i64 1, .int .i64 20, .int .i64 30, .string ⟨#[67]⟩, .int .i64 2, .int .i64 30, .int .i64 1048576] 38)
  have HEq := Lib.hid (equalGi_c _ _ _ _ _ _ (Nat.le_refl _) ((hsl10.below giS (hb11.mono (by omega))).mono giS (by simp; omega)) e1)
  rw [show eqGL (collectL (townL bC)) [⟨⟨#[65]⟩, 1, 10, 20⟩, ⟨⟨#[65]⟩, 1, 30, 1048576⟩, ⟨⟨#[66]⟩, 1, 20, 30⟩, ⟨⟨#[67]⟩, 2, 30, 1048576⟩] = true from town_collect] at HEq
  refine HEq.out.mono ?_
  rintro e w12 ⟨rfl, hb12⟩
  have hs12 := hb12.size
  simp only [World.size_alloc] at hs12
  have hb12' := hb11.trans (hb12.mono (by simp; omega))
  have B12 := B10.trans (hb12'.mono (by omega))
  have z3 : w12.cell? ⟨w10.heap.size, 3, none⟩ = some (.string bB) := (hb12.cell (p := ⟨w10.heap.size, 3, none⟩) (by simp; omega)).trans (by simp [World.cell?_alloc_lt])
  have htab12 := htab10.below paS (hb12'.mono (by omega))
  have hbad12 := hbad10.below shS (hb12'.mono (by omega))
  clear HEq e1 hn1 hbx hb11 hb12 hb12' B10 htab10 hbad10 hsl10
  go_wp2_with fail
  have e2 := flat_at paS (us := [(⟨#[66]⟩, ⟨#[65]⟩)]) (n := 1) (t := 40) (heap_new w12 (.cells #[.string ⟨#[66]⟩, .string ⟨#[65]⟩] 40)) rfl (by simp)
  have hb13 : Below w12.heap.size w12 (w12.alloc (.cells #[.string ⟨#[66]⟩, .string ⟨#[65]⟩] 40)) := (Below.refl _ _).alloc (Nat.le_refl _) _
  have HEq := Lib.hid (equalPa_c _ _ _ _ _ _ (Nat.le_refl _) ((htab12.below paS (hb13.mono (by omega))).mono paS (by simp; omega)) e2)
  rw [show eqPL (progTable (townL bC)) [(⟨#[66]⟩, ⟨#[65]⟩)] = true from town_table] at HEq
  refine HEq.out.mono ?_
  rintro e w14 ⟨rfl, hb14⟩
  have hs14 := hb14.size
  simp only [World.size_alloc] at hs14
  have hb14' := hb13.trans (hb14.mono (by simp))
  have B14 := B12.trans (hb14'.mono (by omega))
  have z4 := (hb14'.cell (p := ⟨w10.heap.size, 3, none⟩) (by show w10.heap.size < _; omega)).trans z3
  have hbad14 := hbad12.below shS (hb14'.mono (by omega))
  clear HEq e2 hb13 hb14 hb14' B12 htab12 hbad12 z3
  have HCk := Lib.hid (progCheck_c (townL bB) _ w14 _ (by omega) hbad14)
  rw [town_bad] at HCk
  go_wp2_with fail
  refine HCk.out.mono ?_
  rintro e w15 ⟨rfl, hb15⟩
  have hs15 := hb15.size
  have B15 := B14.trans (hb15.mono (by omega))
  have z5 : w15.cell? ⟨w10.heap.size, 3, none⟩ = some (.string ⟨#[66]⟩) := (hb15.cell (p := ⟨w10.heap.size, 3, none⟩) (by show w10.heap.size < _; omega)).trans z4
  clear HCk B14 z4 hb15 hbad14
  go_wp2_with fail
  refine (town_c w15).mono ?_
  rintro e w16 ⟨rfl, ht16, hb16, -⟩
  have hs16 := hb16.size
  have B16 := B15.trans (hb16.mono (by omega))
  clear B15 hb16
  go_wp2_with fail
  refine (marks_p 1 (townL bC) _ w16 w16.heap.size (Nat.le_refl _) ht16).mono ?_
  rintro e w17 ⟨v17, rfl, hst17, hb17⟩
  have hs17 := hb17.size
  have B17 := B16.trans (hb17.mono (by omega))
  obtain ⟨A17, c17, rfl, -⟩ := id hst17
  clear B16 hb17 ht16
  go_wp2_with fail
  have e3 := flat_at srS (us := [⟨#[65]⟩, ⟨#[66]⟩]) (n := 2) (t := 9) (heap_new w17 (.cells #[.string ⟨#[65]⟩, .string ⟨#[66]⟩] 9)) rfl (by simp)
  have hb18 : Below w17.heap.size w17 (w17.alloc (.cells #[.string ⟨#[65]⟩, .string ⟨#[66]⟩] 9)) := (Below.refl _ _).alloc (Nat.le_refl _) _
  have HEq := Lib.hid (equalSt_c _ _ _ _ _ _ (Nat.le_refl _) ((hst17.below srS hb18).mono srS (by simp)) e3)
  rw [show eqBL (progMarks (townL bC) 1) [⟨#[65]⟩, ⟨#[66]⟩] = true from town_marks] at HEq
  refine HEq.out.mono ?_
  rintro e w19 ⟨rfl, hb19⟩
  have hs19 := hb19.size
  simp only [World.size_alloc] at hs19
  have B19 := B17.trans ((hb18.trans (hb19.mono (by simp))).mono (by omega))
  clear HEq e3 hb18 hb19 B17 hst17
  go_wp2_with fail
  refine (town_c w19).mono ?_
  rintro e w20 ⟨rfl, ht20, hb20, -⟩
  have hs20 := hb20.size
  have B20 := B19.trans (hb20.mono (by omega))
  have HAt := Lib.hid (progAt_c 20 (townL bC) _ w20 w20.heap.size (Nat.le_refl _) ht20)
  rw [town_at] at HAt
  go_wp2_with fail
  refine HAt.out.mono ?_
  rintro e w21 ⟨rfl, hb21⟩
  go_wp2
  go_ret
  exact ⟨rfl, B20.trans (hb21.mono (by omega))⟩
end Go.Proofs.Ytgnaknanpgfpnaa
