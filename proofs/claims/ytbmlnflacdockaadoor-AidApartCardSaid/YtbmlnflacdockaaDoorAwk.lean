/- The examples of the chapter: awake returns true. -/
import Derived.Test.YtbmlnflacdockaaDoorTwP
namespace Go.Proofs.YtbmlnflacdockaaDoor
open Go.RowKit

abbrev townO : Obj := .cells #[.int .i64 0, .string ⟨#[102, 111, 110, 100, 115]⟩, .string ⟨#[49, 32, 84, 111, 119, 110]⟩, .int .i64 1, .string ⟨#[109, 97, 114, 107]⟩, .string ⟨#[65]⟩, .int .i64 1, .string ⟨#[112]⟩, .string ⟨#[67, 111, 110, 116, 101, 110, 116, 115, 58, 32, 83, 101, 101, 32, 87, 97, 108, 108, 115]⟩, .int .i64 1, .string ⟨#[102, 105, 108, 101]⟩, .string ⟨#[49, 46, 49, 32, 87, 97, 108, 108, 115]⟩] 30
theorem town_row (w : World) : SlRep 3 (flat Node.enc) (w.alloc townO) (fun b => b < (w.alloc townO).heap.size) townN (.slice (some ⟨w.heap.size, 0, none⟩) 4 4) :=
  sl_at nodS (css := townN.map Node.enc) rfl (heap_newL w townO) flat_row (by simp) rfl (by decide)
set_option maxRecDepth 100000 in
set_option maxHeartbeats 8000000 in
theorem awake_c (w : World) (hS : SynOk w) : Calls Tryd.prog 8 #[] w fun e w' => e = .returned (.bool true) ∧ Below w.heap.size w w' := by
  have HT := Lib.hid (fun (W : World) => town_c W)
  go_enter Tryd.func8, Tryd.ntmps8
  go_wp2_with fail
  refine (HT.out _).mono ?_
  rintro e w1 ⟨v1, v2, v3, rfl, h1, b1⟩
  have HCM := Lib.hid (Compile_c townC 7 bEn v1 v2 v3 w1 w1.heap.size (Nat.le_refl _) h1 town_14 (hS.below hS.1 b1))
  rw [town_cmp] at HCM
  go_wp2_with fail
  refine HCM.out.mono ?_
  rintro e w2 ⟨vs, rfl, h2, b2⟩
  obtain ⟨As, cs, rfl, -⟩ := id h2
  have bA : Below w2.heap.size w2 (w2.alloc (aidO (aidU townC 7 bEn) (aidS townC 7 bEn) (.slice As (aidF townC 7 bEn).length cs))) := (Below.refl _ _).alloc (Nat.le_refl _) _
  have h2' := (h2.below secS bA).mono secS bA.size
  have HDO := Lib.hid (Document_c (aidU townC 7 bEn) (aidS townC 7 bEn) (aidF townC 7 bEn) (.slice As (aidF townC 7 bEn).length cs) (w2.alloc (aidO (aidU townC 7 bEn) (aidS townC 7 bEn) (.slice As (aidF townC 7 bEn).length cs))) _ (Nat.le_refl _) h2' town_take)
  rw [town_doc] at HDO
  have B2 := b1.trans (b2.mono b1.size)
  have B2' := B2.trans (bA.mono B2.size)
  clear h1 HCM h2 h2' b1 b2 bA
  go_wp2_with fail
  refine HDO.out.mono ?_
  rintro e w3 ⟨vd, rfl, h3, b3⟩
  have B3 := B2'.trans (b3.mono B2'.size)
  have k3 := Lib.hid (h3.toSl nodS)
  have hd3 := h3.toSl nodS
  obtain ⟨Ad, cd, rfl, -⟩ := id hd3
  clear HDO b3 B2 B2' h3
  go_wp2_with fail
  refine (HT.out _).mono ?_
  rintro e w4 ⟨u1, u2, u3, rfl, h4, b4⟩
  have B4 := B3.trans (b4.mono B3.size)
  have HNU := Lib.hid (Number_c townC 7 9 u1 u2 u3 w4 _ (Nat.le_refl _) h4 town_14)
  rw [town_numU] at HNU
  go_wp2_with fail
  refine HNU.out.mono ?_
  rintro e w5 ⟨rfl, b5⟩
  have B5 := B4.trans (b5.mono B4.size)
  have b35 := b4.trans (b5.mono b4.size)
  clear HNU h4 b4 b5 B4
  go_wp2_with fail
  refine (HT.out _).mono ?_
  rintro e w6 ⟨t1, t2, t3, rfl, h6, b6⟩
  have B6 := B5.trans (b6.mono B5.size)
  have HCH := Lib.hid (Choose_c townC 7 bDe t1 t2 t3 w6 _ (Nat.le_refl _) h6)
  rw [town_cho'] at HCH
  go_wp2_with fail
  refine HCH.out.mono ?_
  rintro e w7 ⟨vc, rfl, h7, b7⟩
  have B7 := B6.trans (b7.mono B6.size)
  have b37 := (b35.trans (b6.mono b35.size)).trans (b7.mono (b35.trans (b6.mono b35.size)).size)
  have hd7 := (hd3.below nodS b37).mono nodS b37.size
  obtain ⟨gc, cc, rfl, hg1, hg2, hg3, hg4⟩ := own_ptr h7 (n := 1) rfl (by omega)
  obtain ⟨b', off', e9, -, -, -, q2⟩ := Facts.at_ (h7.toSl fctS) (show ([⟨1, bDe, ⟨#[65, 108, 108, 101, 115]⟩⟩] : List Fact)[0]? = some _ from rfl)
  injection e9 with e9
  injection e9 with e10 e11
  subst e10 e11
  simp only [Nat.zero_mul, Nat.add_zero, Nat.zero_add] at q2
  clear HCH h6 b6 b7 B6 b35
  have bL : Below w7.heap.size w7 (w7.alloc townO) := (Below.refl _ _).alloc (Nat.le_refl _) _
  have HEQ := Lib.hid (Calls.below_of (equalN_c (docL (aidF townC 7 bEn)) townN (.slice Ad (docL (aidF townC 7 bEn)).length cd) (.slice (some ⟨w7.heap.size, 0, none⟩) 4 4) (w7.alloc townO) _ (Nat.le_refl _) ((hd7.below nodS bL).mono nodS bL.size) (town_row w7)))
  rw [town_nodes] at HEQ
  clear hd3 hd7 k3
  go_wp2_with fail
  refine HEQ.out.mono ?_
  rintro e w8 ⟨rfl, b8⟩
  have b78 := bL.trans (b8.mono bL.size)
  have B8 := B7.trans (b78.mono B7.size)
  have q2' : w8.cell? ⟨gc, 2, none⟩ = some (.string ⟨#[65, 108, 108, 101, 115]⟩) := (b78.cell (p := ⟨gc, 2, none⟩) hg2).trans q2
  clear HEQ q2 bL b8
  go_wp2_with fail
  refine (HT.out _).mono ?_
  rintro e w9 ⟨r1, r2, r3, rfl, h9, b9⟩
  have B9 := B8.trans (b9.mono B8.size)
  have HNM := Lib.hid (Name_c townC 1 bDe r1 r2 r3 w9 _ (Nat.le_refl _) h9)
  rw [town_name] at HNM
  go_wp2_with fail
  refine HNM.out.mono ?_
  rintro e wA ⟨rfl, bA⟩
  have BA := B9.trans (bA.mono B9.size)
  go_wp2_with fail
  refine (HT.out _).mono ?_
  rintro e wB ⟨s1, s2, s3, rfl, hB, bB⟩
  have BB := BA.trans (bB.mono BA.size)
  have HCI := Lib.hid (Cite_c townC 7 s1 s2 s3 wB _ (Nat.le_refl _) hB)
  rw [town_cite] at HCI
  go_wp2_with fail
  refine HCI.out.mono ?_
  rintro e wC ⟨rfl, bC⟩
  have BC := BB.trans (bC.mono BB.size)
  go_wp2_with fail
  refine (HT.out _).mono ?_
  rintro e wD ⟨t4, t5, t6, rfl, hD, bD⟩
  have BD := BC.trans (bD.mono BC.size)
  have HCK := Lib.hid (Check_c townC t4 t5 t6 wD _ (Nat.le_refl _) hD)
  rw [town_ok] at HCK
  go_wp2_with fail
  refine HCK.out.mono ?_
  rintro e wE ⟨rfl, bE⟩
  have BE := BD.trans (bE.mono BD.size)
  go_wp2
  go_ret
  exact ⟨rfl, BE⟩
end Go.Proofs.YtbmlnflacdockaaDoor
