/- The program: an item on its own. -/
import Derived.Test.YtenaifmkejmdaaaGreatDoorNmC
namespace Go.Proofs.YtenaifmkejmdaaaGreatDoor
open Go.RowKit

abbrev itmV (x : Item) : Value := .agg #[.int .i64 x.number, .int .i64 x.file, .string x.title, .int .i64 x.first, .int .i64 x.last, .int .i64 x.pages, .string x.digest]
abbrev itmC (x : Item) : Obj := .cells #[.int .i64 x.number, .int .i64 x.file, .string x.title, .int .i64 x.first, .int .i64 x.last, .int .i64 x.pages, .string x.digest] 47
abbrev datC (a b : Int) : Obj := .cells #[.int .i64 a, .int .i64 b] 28
set_option maxRecDepth 100000 in
set_option maxHeartbeats 4000000 in
theorem item_c (x : Item) (w : World) (hV : VarOk w) : Calls Tryz.prog 51 #[itmV x] w fun e w' => e = .returned (.int .i64 (itemE x)) ∧ Below w.heap.size w w' := by
  have b1 : Below w.heap.size w ((w.alloc (itmC x)).alloc (datC x.first x.last)) := ((Below.refl _ _).alloc (Nat.le_refl _) _).alloc (by simp) _
  have HV := Lib.hid (hV.below b1)
  have HE := Lib.hid (show itemE x = (if (inB x.number 1 9999 && inB x.file 1 1073741824 && inB x.pages 1 100000 && (decide (0 ≤ x.first) && decide (x.first ≤ x.last) && decide (x.last ≤ 1048575))) = false then 2 else if nameB x.title = false then 4 else if x.digest.size ≠ 32 then 1 else 0) from rfl)
  cases h0 : inB x.number 1 9999
  · skip
    have HX := Lib.hid (show itemE x = 2 by rw [HE.out, if_pos (by simp [h0])])
    clear HE
    go_enter Tryz.func51, Tryz.ntmps51
    go_wp2_with fail
    refine (within_c x.number 1 9999 _).mono ?_
    rintro e w1 ⟨rfl, rfl⟩
    rw [h0]
    go_wp2
    go_ret
    exact ⟨ret_int HX.out.symm, b1⟩
  · skip
    cases h1 : inB x.file 1 1073741824
    · skip
      have HX := Lib.hid (show itemE x = 2 by rw [HE.out, if_pos (by simp [h0, h1])])
      clear HE
      go_enter Tryz.func51, Tryz.ntmps51
      go_wp2_with fail
      refine (within_c x.number 1 9999 _).mono ?_
      rintro e w1 ⟨rfl, rfl⟩
      rw [h0]
      go_wp2_with fail
      refine (within_c x.file 1 1073741824 _).mono ?_
      rintro e w2 ⟨rfl, rfl⟩
      rw [h1]
      go_wp2
      go_ret
      exact ⟨ret_int HX.out.symm, b1⟩
    · skip
      cases h2 : inB x.pages 1 100000
      · skip
        have HX := Lib.hid (show itemE x = 2 by rw [HE.out, if_pos (by simp [h0, h1, h2])])
        clear HE
        go_enter Tryz.func51, Tryz.ntmps51
        go_wp2_with fail
        refine (within_c x.number 1 9999 _).mono ?_
        rintro e w1 ⟨rfl, rfl⟩
        rw [h0]
        go_wp2_with fail
        refine (within_c x.file 1 1073741824 _).mono ?_
        rintro e w2 ⟨rfl, rfl⟩
        rw [h1]
        go_wp2_with fail
        refine (within_c x.pages 1 100000 _).mono ?_
        rintro e w3 ⟨rfl, rfl⟩
        rw [h2]
        go_wp2
        go_ret
        exact ⟨ret_int HX.out.symm, b1⟩
      · skip
        by_cases hd : 0 ≤ x.first ∧ x.first ≤ x.last ∧ x.last ≤ 1048575
        · obtain ⟨hd1, hd2, hd3⟩ := hd
          have HY := Lib.hid (show itemE x = (if nameB x.title = false then 4 else if x.digest.size ≠ 32 then 1 else 0) by rw [HE.out, if_neg (by simp [h0, h1, h2, hd1, hd2, hd3])])
          have HN := Lib.hid (name_c x.title _ HV.out)
          have hd4 : decide (x.first < 0) = false := by simp; omega
          have hd5 : decide (x.last < x.first) = false := by simp; omega
          have hd6 : decide (1048575 < x.last) = false := by simp; omega
          clear hd1 hd2 hd3
          cases hn : nameB x.title
          · rw [hn] at HN HY
            have HX := Lib.hid (show itemE x = 4 by rw [HY.out, if_pos rfl])
            clear HE HY
            go_enter Tryz.func51, Tryz.ntmps51
            go_wp2_with fail
            refine (within_c x.number 1 9999 _).mono ?_
            rintro e w1 ⟨rfl, rfl⟩
            rw [h0]
            go_wp2_with fail
            refine (within_c x.file 1 1073741824 _).mono ?_
            rintro e w2 ⟨rfl, rfl⟩
            rw [h1]
            go_wp2_with fail
            refine (within_c x.pages 1 100000 _).mono ?_
            rintro e w3 ⟨rfl, rfl⟩
            rw [h2]
            go_wp2_with fail
            refine HN.out.mono ?_
            rintro e w4 ⟨rfl, hb4⟩
            go_wp2
            go_ret
            exact ⟨ret_int HX.out.symm, b1.trans (hb4.mono b1.size)⟩
          · rw [hn] at HN HY
            by_cases hz : x.digest.size = 32
            · have HX := Lib.hid (show itemE x = 0 by rw [HY.out, if_neg (by decide), if_neg (by omega)])
              have hz' : ((x.digest.size : Int) != 32) = false := by simp; omega
              clear HE HY hz HV
              go_enter Tryz.func51, Tryz.ntmps51
              go_wp2_with fail
              refine (within_c x.number 1 9999 _).mono ?_
              rintro e w1 ⟨rfl, rfl⟩
              rw [h0]
              go_wp2_with fail
              refine (within_c x.file 1 1073741824 _).mono ?_
              rintro e w2 ⟨rfl, rfl⟩
              rw [h1]
              go_wp2_with fail
              refine (within_c x.pages 1 100000 _).mono ?_
              rintro e w3 ⟨rfl, rfl⟩
              rw [h2]
              go_wp2_with fail
              refine HN.out.mono ?_
              rintro e w4 ⟨rfl, hb4⟩
              have q0 := (hb4.cell (p := ⟨w.heap.size, 6, none⟩) (by simp; omega)).trans (show ((w.alloc (itmC x)).alloc (datC x.first x.last)).cell? ⟨w.heap.size, 6, none⟩ = some (.string x.digest) by simp)
              go_wp2
              go_ret
              exact ⟨ret_int HX.out.symm, b1.trans (hb4.mono b1.size)⟩
            · have HX := Lib.hid (show itemE x = 1 by rw [HY.out, if_neg (by decide), if_pos hz])
              have hz' : ((x.digest.size : Int) != 32) = true := by simp; omega
              clear HE HY hz HV
              go_enter Tryz.func51, Tryz.ntmps51
              go_wp2_with fail
              refine (within_c x.number 1 9999 _).mono ?_
              rintro e w1 ⟨rfl, rfl⟩
              rw [h0]
              go_wp2_with fail
              refine (within_c x.file 1 1073741824 _).mono ?_
              rintro e w2 ⟨rfl, rfl⟩
              rw [h1]
              go_wp2_with fail
              refine (within_c x.pages 1 100000 _).mono ?_
              rintro e w3 ⟨rfl, rfl⟩
              rw [h2]
              go_wp2_with fail
              refine HN.out.mono ?_
              rintro e w4 ⟨rfl, hb4⟩
              have q0 := (hb4.cell (p := ⟨w.heap.size, 6, none⟩) (by simp; omega)).trans (show ((w.alloc (itmC x)).alloc (datC x.first x.last)).cell? ⟨w.heap.size, 6, none⟩ = some (.string x.digest) by simp)
              go_wp2
              go_ret
              exact ⟨ret_int HX.out.symm, b1.trans (hb4.mono b1.size)⟩
        · have HX := Lib.hid (show itemE x = 2 by rw [HE.out, if_pos (by simp [h0, h1, h2]; omega)])
          have hd4 : decide (x.first < 0) = true ∨ (decide (x.first < 0) = false ∧ decide (x.last < x.first) = true) ∨ (decide (x.first < 0) = false ∧ decide (x.last < x.first) = false ∧ decide (1048575 < x.last) = true) := by simp; omega
          clear HE hd
          rcases hd4 with hd1 | ⟨hd1, hd2⟩ | ⟨hd1, hd2, hd3⟩
          all_goals
            go_enter Tryz.func51, Tryz.ntmps51
            go_wp2_with fail
            refine (within_c x.number 1 9999 _).mono ?_
            rintro e w1 ⟨rfl, rfl⟩
            rw [h0]
            go_wp2_with fail
            refine (within_c x.file 1 1073741824 _).mono ?_
            rintro e w2 ⟨rfl, rfl⟩
            rw [h1]
            go_wp2_with fail
            refine (within_c x.pages 1 100000 _).mono ?_
            rintro e w3 ⟨rfl, rfl⟩
            rw [h2]
            go_wp2
            go_ret
            exact ⟨ret_int HX.out.symm, b1⟩
end Go.Proofs.YtenaifmkejmdaaaGreatDoor
